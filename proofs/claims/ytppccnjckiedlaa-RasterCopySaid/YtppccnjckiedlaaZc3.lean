import Derived.Test.YtppccnjckiedlaaZc2
import Derived.Laws.AppendOwn
import Derived.Laws.AppendOwnNone
import Derived.Laws.MakeOwn
import Derived.Deep.Onto
import Derived.Great.BuildSlice
import Derived.Deep.MidRow
import Derived.Deep.Upon
import Derived.SizedLaws
import Derived.ChangeSlices
import Derived.Shelf.Abstract

/- '==' of tiles at a position; contracts of Equal of package raster and of its reference. -/
namespace Go.Proofs.Ytppccnjckiedlaa
open Go.RowKit Go.Shelf Pl
set_option linter.unusedVariables false
set_option linter.unusedSimpArgs false
set_option maxRecDepth 20000

theorem eqItems_tileD (d : Nat) (f g : Nat → Px) (w : World) : ∀ is : List Nat, (∀ i ∈ is, i < 64) → (Op.eqItems (d + 2) 37 4 (tileC f) (tileC g) is).run Try.prog w = .ok (decide (∀ i ∈ is, f i = g i)) w
  | [], _ => by simp [Op.eqItems]
  | i :: is, h => by
    have hi : i < 64 := h i (by simp)
    simp only [Op.eqItems, Sem.run_bind, part_tile f i hi, part_tile g i hi, Result.andThen_ok, equalIn_px d]
    by_cases e : f i = g i
    · simp [e, eqItems_tileD d f g w is (fun j hj => h j (by simp [hj]))]
    · simp [e]
theorem equalIn_tileD (d : Nat) (f g : Nat → Px) (w : World) : (Op.equalIn (d + 3) 40 (Tile.v f) (Tile.v g)).run Try.prog w = .ok (eqT f g) w := by
  obtain ⟨i, hi⟩ : ∃ i, Try.prog.info? 37 = some i := by
    cases h : Try.prog.info? 37 with
    | some i => exact ⟨i, rfl⟩
    | none =>
      have e : (Try.prog.info? 37).isSome = true := by kernel_rfl
      rw [h] at e; cases e
  unfold Tile.v
  refine (run_equalIn_array w (d + 2) (tileC f) (tileC g) Try.underlying40 hi).trans ?_
  rw [cellsOf_px, eqItems_tileD d f g w _ (fun i hi => List.mem_range.1 hi)]
  rfl
theorem sizeOf_pos (w : World) : (sizeOf 24).run Try.prog w = .ok 2 w := by kernel_rfl
theorem sizeOf_tl (w : World) : (sizeOf 40).run Try.prog w = .ok 256 w := by kernel_rfl
theorem part_pos (e : TA) (w : World) : (Go.part 24 (taC e) 0).run Try.prog w = .ok (Ps.v e.x e.y) w := by
  unfold Go.part
  simp only [Sem.run_bind, Try.isAgg24, Result.andThen_ok, if_true, sizeOf_pos, Sem.run_pure, Ps.v]
  congr 2
  apply Array.ext_getElem?
  intro k
  rw [Array.getElem?_extract]
  obtain ⟨x, y, t⟩ := e
  by_cases h : k < 2
  · rw [if_pos (by rw [size_taC]; omega), Nat.zero_add, taC_get, if_pos h]
  · rw [if_neg (by omega)]
    exact (Array.getElem?_eq_none (by simp; omega)).symm
theorem part_tl (e : TA) (w : World) : (Go.part 40 (taC e) 2).run Try.prog w = .ok (Tile.v e.t) w := by
  unfold Go.part
  simp only [Sem.run_bind, Try.isAgg40, Result.andThen_ok, if_true, sizeOf_tl, Sem.run_pure, Tile.v]
  congr 2
  apply Array.ext_getElem?
  intro k
  rw [Array.getElem?_extract]
  by_cases h : k < 256
  · rw [if_pos (by rw [size_taC]; omega), taC_t]
  · rw [if_neg (by omega)]
    exact (Array.getElem?_eq_none (by rw [size_tileC]; omega)).symm
def eqA (a b : TA) : Bool := eqB a.x a.y b.x b.y && eqT a.t b.t
theorem fields_ta : (Try.prog.fieldsOf 79).toList.map (fun f => (f.name == "_", f.type, f.offset)) = [(false, 24, 0), (false, 40, 2)] := by kernel_rfl
theorem equalIn_ta (d : Nat) (a b : TA) (w : World) : (Op.equalIn (d + 4) 79 (.agg (taC a)) (.agg (taC b))).run Try.prog w = .ok (eqA a b) w := by
  rw [run_equalIn_struct w (d + 3) 79 (taC a) (taC b) (by kernel_rfl) (by kernel_rfl)]
  have hf := fields_ta
  generalize (Try.prog.fieldsOf 79).toList = fs at hf
  obtain ⟨f, fs, rfl, hf1, hf⟩ := List.map_eq_cons_iff.1 hf
  obtain ⟨g, fs, rfl, hf2, hf⟩ := List.map_eq_cons_iff.1 hf
  obtain rfl := List.map_eq_nil_iff.1 hf
  simp only [Prod.mk.injEq] at hf1 hf2
  obtain ⟨n1, t1, o1⟩ := hf1
  obtain ⟨n2, t2, o2⟩ := hf2
  have n1 : f.name ≠ "_" := by simpa using n1
  have n2 : g.name ≠ "_" := by simpa using n2
  have p1 := fun w => part_pos a w
  simp only [Op.eqFields, n1, n2, t1, t2, o1, o2, ne_eq, not_false_eq_true, if_true, Sem.run_bind, part_pos, part_tl, Result.andThen_ok, equalIn_pos (d + 1), equalIn_tileD d]
  unfold eqA
  cases h1 : eqB a.x a.y b.x b.y <;> cases h2 : eqT a.t b.t <;> simp [part_tl, equalIn_tileD d, h1, h2]
theorem neq_ta (a b : TA) (w : World) : (binOp .neq 79 (.agg (taC a)) (.agg (taC b))).run Try.prog w = .ok (.bool (!eqA a b)) w := by
  have h := run_neq_struct (P := Try.prog) w 79 (taC a) (taC b)
  rw [h, equalIn_ta 9996]; rfl
@[go_sem] theorem guard_ta (op : BinOp) (p q : Operand) (a b : TA) (w : World) : (eqGuard op 79 p q (.agg (taC a)) (.agg (taC b))).run Try.prog w = .ok () w := run_eqGuard_agg w op 79 p q _ _ (by kernel_rfl)
/-- Two lists of tiles are equal. -/
def eqL (ls ks : List TA) : Bool := decide (ls.length = ks.length) && decide (∀ i ∈ List.range ls.length, eqA (aT ls i) (aT ks i) = true)
theorem eqL_len {ls ks : List TA} (h : ¬ ls.length = ks.length) : eqL ls ks = false := by unfold eqL; rw [decide_eq_false h]; rfl
theorem eqL_no {ls ks : List TA} {j : Nat} (hj : j < ls.length) (h : eqA (aT ls j) (aT ks j) = false) : eqL ls ks = false := by
  unfold eqL
  rw [Bool.and_eq_false_iff]
  right
  exact decide_eq_false fun e => by rw [e j (List.mem_range.2 hj)] at h; cases h
theorem eqL_yes {ls ks : List TA} (h : ls.length = ks.length) (k : ∀ j, j < ls.length → eqA (aT ls j) (aT ks j) = true) : eqL ls ks = true := by
  unfold eqL
  rw [decide_eq_true h, Bool.true_and]
  exact decide_eq_true fun j hj => k j (List.mem_range.1 hj)
set_option maxHeartbeats 1000000 in
theorem P_equal (v u : Value) (ls ks : List TA) (w : World) (h : RS v ls w) (h' : RS u ks w) (hn : ls.length ≤ maxLen) (hn' : ks.length ≤ maxLen) : Calls Try.prog 89 #[v, u] w fun e w' => e = .returned (.bool (eqL ls ks)) ∧ Below w.heap.size w w' := by
  unfold maxLen at hn hn'
  obtain ⟨a, c, rfl, hc⟩ := h.len
  obtain ⟨a', c', rfl, hc'⟩ := h'.len
  have B := Below.refl w.heap.size w
  have HS := Lib.hid h
  have HS' := Lib.hid h'
  clear h h'
  by_cases hlen : ls.length = ks.length
  · have HL := Lib.hid hlen
    obtain ⟨n, hnl⟩ : ∃ n, n = ls.length := ⟨_, rfl⟩
    have e1 : ls.length = n := hnl.symm
    have e2 : ks.length = n := by omega
    rw [e1, e2]
    rw [e1] at hn hc
    rw [e2] at hn' hc'
    have E1 := Lib.hid e1
    have E2 := Lib.hid e2
    clear hlen hnl e1 e2
    go_enter Try.func89, Try.ntmps89
    go_wp2_with (first | fail | fail)
    go_loopw [5, 13] (fun _ i wr => ∃ k : Nat, k ≤ n ∧ i = .int .i64 k ∧ Below w.heap.size w wr ∧ ∀ j, j < k → eqA (aT ls j) (aT ks j) = true) (fun _ i _ => (n - intOf i).toNat)
    case atStart => exact ⟨0, by omega, rfl, B, fun j hj => by omega⟩
    case round =>
      clear B 
      obtain ⟨k, hk, rfl, B, hst⟩ := hrel
      have HST := Lib.hid hst
      clear hst
      by_cases hkn : k < n
      · have hkl : k < ls.length := by rw [E1.out]; exact hkn
        have hkk : k < ks.length := by rw [E2.out]; exact hkn
        obtain ⟨g, o, rfl, rc0⟩ := (E1.out ▸ HS.out).at (by omega)
        obtain ⟨g', o', rfl, rd0⟩ := (E2.out ▸ HS'.out).at (by omega)
        have hg0 := rc0.lt
        have hg1 := rd0.lt
        have rc := rc0.of_eq (B.block _ rc0.lt)
        have rd := rd0.of_eq (B.block _ rd0.lt)
        clear rc0 rd0
        obtain ⟨e, he⟩ : ∃ e, aT ls k = e := ⟨_, rfl⟩
        obtain ⟨e', he'⟩ : ∃ e, aT ks k = e := ⟨_, rfl⟩
        have hneq : ∀ w, (binOp .neq 79 (.agg (taC e)) (.agg (taC e'))).run Try.prog w = .ok (.bool (!eqA e e')) w := fun w => neq_ta _ _ w
        cases hq : eqA e e' with
        | true =>
          go_wp2_with (first | fail | fail)
          refine wp_region_ov (by kernel_rfl) (by kernel_rfl) ?_
          repeat (first | go_big_quiet_skip | (go_big_quiet_want; first | (refine quiet_loadAny (t := 79) rfl _ _ _ rfl (fun w hw => rc_ta (ov_rc rc w hw) hkl he) (by first | rfl | omega) ?_; simp only [Act.put, putS]; go_big_quiet_on) | (refine quiet_loadAny (t := 79) rfl _ _ _ rfl (fun w hw => rc_ta (ov_rc rd w hw) hkk he') (by first | rfl | omega) ?_; simp only [Act.put, putS]; go_big_quiet_on) | (go_big_quiet_op; first | go_big_quiet_on | go_big_quiet_call ((fail)))))
          refine wpQuiet_nil ?_
          intro wn hbn
          have hsz := B.size
          have hzn := hbn.size
          replace B := B.trans (hbn.mono B.size)
          try first | replace rc := rc.of_eq (hbn.block _ rc.lt) | replace rc := rc.below hbn
          try first | replace rd := rd.of_eq (hbn.block _ rd.lt) | replace rd := rd.below hbn
          go_wp2
          go_roundw
          case rel => exact ⟨k + 1, by omega, by go_num, B, fun j hj => by
            by_cases ej : j = k
            · rw [ej, he, he', hq]
            · exact HST.out j (by omega)⟩
          case measure => simp [intOf]; omega
        | false =>
          have EN := Lib.hid (eqL_no (ks := ks) hkl (by rw [he, he', hq]))
          go_wp2_with (first | fail | fail)
          refine wp_region_ov (by kernel_rfl) (by kernel_rfl) ?_
          repeat (first | go_big_quiet_skip | (go_big_quiet_want; first | (refine quiet_loadAny (t := 79) rfl _ _ _ rfl (fun w hw => rc_ta (ov_rc rc w hw) hkl he) (by first | rfl | omega) ?_; simp only [Act.put, putS]; go_big_quiet_on) | (refine quiet_loadAny (t := 79) rfl _ _ _ rfl (fun w hw => rc_ta (ov_rc rd w hw) hkk he') (by first | rfl | omega) ?_; simp only [Act.put, putS]; go_big_quiet_on) | (go_big_quiet_op; first | go_big_quiet_on | go_big_quiet_call ((fail)))))
          refine wpQuiet_nil ?_
          intro wn hbn
          have hsz := B.size
          have hzn := hbn.size
          replace B := B.trans (hbn.mono B.size)
          try first | replace rc := rc.of_eq (hbn.block _ rc.lt) | replace rc := rc.below hbn
          try first | replace rd := rd.of_eq (hbn.block _ rd.lt) | replace rd := rd.below hbn
          go_wp2
          go_ret
          exact ⟨by rw [EN.out]; try rfl, B⟩
      · have EY := Lib.hid (eqL_yes HL.out (fun j hj => HST.out j (by have := E1.out; omega)))
        go_wp2_with (first | fail | fail)
        go_ret
        exact ⟨by rw [EY.out]; try rfl, B⟩
  · rw [eqL_len hlen]
    have hne : ((ls.length : Int) != (ks.length : Int)) = true := by simp; omega
    clear hlen
    go_enter Try.func89, Try.ntmps89
    go_wp2_with (first | fail | fail)
    go_ret
    exact ⟨rfl, B⟩
theorem P_Equal (v u : Value) (ls ks : List TA) (w : World) (h : RS v ls w) (h' : RS u ks w) (tk : TokL ls) (tk' : TokL ks) (hn : ls.length ≤ maxLen) (hn' : ks.length ≤ maxLen) : Calls Try.prog 44 #[.agg #[v], .agg #[u]] w fun e w' => e = .returned (.bool (eqL (fineL ls) (fineL ks))) ∧ Below w.heap.size w w' := by
  have B := Below.refl w.heap.size w
  obtain ⟨a1, c1, hT⟩ := P_tiles v ls w h tk hn
  obtain ⟨a2, c2, hU⟩ := P_tiles u ks w h' tk' hn'
  have HT := Lib.hid hT
  have HU := Lib.hid hU
  clear hT hU
  obtain ⟨a, c, rfl, hc⟩ := h.len
  obtain ⟨a', c', rfl, hc'⟩ := h'.len
  have hf1 : (fineL ls).length ≤ maxLen := by have := fineL_le ls; omega
  have hf2 : (fineL ks).length ≤ maxLen := by have := fineL_le ks; omega
  clear h h' tk tk'
  go_enter Try.func44, Try.ntmps44
  go_wp2_with (first | (have _ := r1; refine wpList_boxB (t := 30) rfl _ rfl _ rfl ?_; intro b_r2 wn hle hge ht hbn hzn; have hsz := B.size; replace B := B.trans (hbn.mono (by omega)); have hln := Nat.lt_of_lt_of_eq (Nat.lt_succ_self _) hzn.symm; clear hzn; (try first | (have hlt := r1.lt; replace r1 := r1.of_eq (hbn.block _ (by omega))) | replace r1 := r1.below (hbn.mono hle)); (try first | (have hlt := r2.lt; replace r2 := r2.of_eq (hbn.block _ (by omega))) | replace r2 := r2.below (hbn.mono hle)); have r2 := ht; clear ht; simp only [Act.put, putS]) | (refine wpList_boxB (t := 30) rfl _ rfl _ rfl ?_; intro b_r1 wn hle hge ht hbn hzn; have hsz := B.size; replace B := B.trans (hbn.mono (by omega)); have hln := Nat.lt_of_lt_of_eq (Nat.lt_succ_self _) hzn.symm; clear hzn; (try first | (have hlt := r1.lt; replace r1 := r1.of_eq (hbn.block _ (by omega))) | replace r1 := r1.below (hbn.mono hle)); (try first | (have hlt := r2.lt; replace r2 := r2.of_eq (hbn.block _ (by omega))) | replace r2 := r2.below (hbn.mono hle)); have r1 := ht; clear ht; simp only [Act.put, putS]) | fail)
  refine wp_region_ov (by kernel_rfl) (by kernel_rfl) ?_
  repeat (first | go_big_quiet_skip | (go_big_quiet_want; first | (refine quiet_loadAny (t := 30) rfl _ _ _ rfl (fun w hw => run_load_B (ov_B r1 w hw) Try.isAgg30 (by kernel_rfl)) (by rfl) ?_; simp only [Act.put, putS]; go_big_quiet_on) | (refine quiet_loadAny (t := 30) rfl _ _ _ rfl (fun w hw => run_load_B (ov_B r2 w hw) Try.isAgg30 (by kernel_rfl)) (by rfl) ?_; simp only [Act.put, putS]; go_big_quiet_on) | (go_big_quiet_op; first | go_big_quiet_on | go_big_quiet_call ((first | (go_at_call 89; exact calls_ov (P_equal _ _ _ _ _ (HT.out _ (below_ov B B.size _)).2 (HU.out _ (below_ov B B.size _)).2 hf1 hf2)) | (go_at_call 68; with_reducible exact calls_ov (HT.out _ (below_ov B B.size _)).1) | (go_at_call 68; with_reducible exact calls_ov (HU.out _ (below_ov B B.size _)).1))))))
  refine wpQuiet_nil ?_
  intro wn hbn
  have hsz := B.size
  have hzn := hbn.size
  replace B := B.trans (hbn.mono B.size)
  try first | replace r1 := r1.of_eq (hbn.block _ r1.lt) | replace r1 := r1.below hbn
  try first | replace r2 := r2.of_eq (hbn.block _ r2.lt) | replace r2 := r2.below hbn
  go_wp2
  go_ret
  exact ⟨rfl, B⟩
end Go.Proofs.Ytppccnjckiedlaa
/- Contract of mapped of package raster, for whatever function that turns at most one block. -/
namespace Go.Proofs.Ytppccnjckiedlaa
open Go.RowKit Go.Shelf Pl
set_option linter.unusedVariables false
set_option linter.unusedSimpArgs false
set_option maxRecDepth 20000

/-- Below n, block c aside, what was there is as it was. -/
structure Exc (c n : Nat) (w w' : World) : Prop where
  os : w'.os = w.os
  tape : w'.tape = w.tape
  output : w'.output = w.output
  size : n ≤ w'.heap.size
  grow : w.heap.size ≤ w'.heap.size
  block : ∀ k, k < n → k ≠ c → w'.heap[k]? = w.heap[k]?
theorem Exc.refl (c : Nat) (w : World) : Exc c w.heap.size w w := ⟨rfl, rfl, rfl, Nat.le_refl _, Nat.le_refl _, fun _ _ _ => rfl⟩
theorem Exc.trans {c n : Nat} {w1 w2 w3 : World} (h : Exc c n w1 w2) (k : Below n w2 w3) : Exc c n w1 w3 :=
  ⟨k.os.trans h.os, k.tape.trans h.tape, k.output.trans h.output, Nat.le_trans h.size k.size, Nat.le_trans h.grow k.size, fun i hi hc => (k.block i hi).trans (h.block i hi hc)⟩
theorem Exc.store {c n b : Nat} {w1 w2 w3 : World} (h : Exc c n w1 w2) (k : Chg b w2 w3) (hb : n ≤ b) : Exc c n w1 w3 :=
  ⟨k.os.trans h.os, k.tape.trans h.tape, k.output.trans h.output, Nat.le_trans h.size k.size, Nat.le_trans h.grow k.size, fun i hi hc => (k.block i (Nat.lt_of_lt_of_le hi h.size) (by omega)).trans (h.block i hi hc)⟩
theorem Exc.chg {c n : Nat} {w1 w2 w3 : World} (h : Exc c n w1 w2) (k : Chg c w2 w3) : Exc c n w1 w3 :=
  ⟨k.os.trans h.os, k.tape.trans h.tape, k.output.trans h.output, Nat.le_trans h.size k.size, Nat.le_trans h.grow k.size, fun i hi hc => (k.block i (Nat.lt_of_lt_of_le hi h.size) hc).trans (h.block i hi hc)⟩
theorem Exc.toChg {c : Nat} {w w' : World} (h : Exc c w.heap.size w w') : Chg c w w' := ⟨h.os, h.tape, h.output, h.grow, h.block⟩

theorem set_taC (x y : Int) (u : Nat → Px) (i : Nat) (p : Px) (hi : i < 64) : ((((taC ⟨x, y, u⟩).setIfInBounds (2 + i * 4) (.int .u8 p.r)).setIfInBounds (2 + i * 4 + 1) (.int .u8 p.g)).setIfInBounds (2 + i * 4 + 2) (.int .u8 p.b)).setIfInBounds (2 + i * 4 + 3) (.int .u8 p.a) = taC ⟨x, y, upd u i p⟩ := by
  apply Array.ext_getElem?
  intro k
  rw [taC_get, ← set_tileC u i p hi]
  by_cases h2 : k < 2
  · rw [if_pos h2]
    rw [Array.getElem?_setIfInBounds, if_neg (by omega), Array.getElem?_setIfInBounds, if_neg (by omega), Array.getElem?_setIfInBounds, if_neg (by omega), Array.getElem?_setIfInBounds, if_neg (by omega), taC_get, if_pos h2]
  · rw [if_neg h2]
    have hs : (taC ⟨x, y, u⟩).size = 258 := size_taC _
    have ht : (tileC u).size = 256 := size_tileC _
    simp only [Array.getElem?_setIfInBounds, Array.size_setIfInBounds, hs, ht, taC_get, if_neg h2]
    have e : ∀ j, (2 + i * 4 + j = k) ↔ (i * 4 + j = k - 2) := fun j => by omega
    by_cases c3 : 2 + i * 4 + 3 = k
    · rw [if_pos c3, if_pos ((e 3).1 c3), if_pos (by omega), if_pos (by omega)]
    · rw [if_neg c3, if_neg (fun h => c3 ((e 3).2 h))]
      by_cases c2 : 2 + i * 4 + 2 = k
      · rw [if_pos c2, if_pos ((e 2).1 c2), if_pos (by omega), if_pos (by omega)]
      · rw [if_neg c2, if_neg (fun h => c2 ((e 2).2 h))]
        by_cases c1 : 2 + i * 4 + 1 = k
        · rw [if_pos c1, if_pos ((e 1).1 c1), if_pos (by omega), if_pos (by omega)]
        · rw [if_neg c1, if_neg (fun h => c1 ((e 1).2 h))]
          by_cases c0 : 2 + i * 4 = k
          · rw [if_pos c0, if_pos (by omega), if_pos (by omega), if_pos (by omega)]
          · rw [if_neg c0, if_neg (by omega)]
theorem run_store_TAp {w : World} {b i : Nat} {x y : Int} {u : Nat → Px} (h : AtB 79 w b (taC ⟨x, y, u⟩)) (hi : i < 64) (p : Px) : (Instr.storeAt 37 (.pointer (some ⟨b, 2 + i * 4, none⟩)) (Px.v p)).run Try.prog w =
    .ok () ((((w.setCell ⟨b, 2 + i * 4, none⟩ (.int .u8 p.r)).setCell ⟨b, 2 + i * 4 + 1, none⟩ (.int .u8 p.g)).setCell ⟨b, 2 + i * 4 + 2, none⟩ (.int .u8 p.b)).setCell ⟨b, 2 + i * 4 + 3, none⟩ (.int .u8 p.a)) := by
  have hc : ∀ j, j < 4 → w.cell? ⟨b, 2 + i * 4 + j, none⟩ = (tileC u)[i * 4 + j]? := fun j hj => by
    rw [(cells_of_block h).1, taC_get, if_neg (by omega), show 2 + i * 4 + j - 2 = i * 4 + j by omega]
  have c0 := (hc 0 (by omega)).trans (tileC_at u i 0 hi (by omega))
  have c1 := (hc 1 (by omega)).trans (tileC_at u i 1 hi (by omega))
  have c2 := (hc 2 (by omega)).trans (tileC_at u i 2 hi (by omega))
  have c3 := (hc 3 (by omega)).trans (tileC_at u i 3 hi (by omega))
  have hf := fun j => h.frozen j
  rw [Nat.add_zero] at c0
  simp [go_sem, c0, c1, c2, c3, hf, Px.v]
theorem AtB.set4 {w : World} {b i : Nat} {x y : Int} {u : Nat → Px} (h : AtB 79 w b (taC ⟨x, y, u⟩)) (hi : i < 64) (p : Px) :
    AtB 79 ((((w.setCell ⟨b, 2 + i * 4, none⟩ (.int .u8 p.r)).setCell ⟨b, 2 + i * 4 + 1, none⟩ (.int .u8 p.g)).setCell ⟨b, 2 + i * 4 + 2, none⟩ (.int .u8 p.b)).setCell ⟨b, 2 + i * 4 + 3, none⟩ (.int .u8 p.a)) b (taC ⟨x, y, upd u i p⟩) := by
  unfold AtB
  rw [← set_taC x y u i p hi]
  exact heap_setCell_same _ _ _ _ _ _ (heap_setCell_same _ _ _ _ _ _ (heap_setCell_same _ _ _ _ _ _ (heap_setCell_same _ _ _ _ _ _ h)))
theorem wpList_storeTAp {ops : Array Oper} {rest : List Oper} {o : Oper} {a : Act} {w : World} {Q : Exit → Act → World → Prop} (hg : o.guard = none) (x y : Operand) (ho : o.op = .store 37 x y) (b j : Nat) (hx : a.eval x = .pointer (some ⟨b, j, none⟩)) (q : Px) (hy : a.eval y = Px.v q) {px py : Int} {u : Nat → Px} (ht : AtB 79 w b (taC ⟨px, py, u⟩)) (i : Nat) (hi : i < 64) (hj : j = 2 + i * 4)
    (h : ∀ w', AtB 79 w' b (taC ⟨px, py, upd u i q⟩) → Chg b w w' → w'.heap.size = w.heap.size → wpList Try.prog ops Q rest (a.put o.dst undef) w') : wpList Try.prog ops Q (o :: rest) a w := by
  subst hj
  refine wpList_storeAny hg x y ho _ ?_ (h _ (ht.set4 hi q) (((((Chg.refl b w).setCell _).setCell _).setCell _).setCell _) (by simp only [World.size_setCell]))
  rw [hx, hy]
  exact run_store_TAp ht hi q

/-! ### mapped -/
/-- The first k pixels of a tile mapped: the state behind them, the tile. -/
def runT {σ : Type} (F : σ → Int → Int → Px → σ × Px) (e : TA) : Nat → σ → σ × (Nat → Px)
  | 0, s => (s, e.t)
  | k + 1, s => ((F (runT F e k s).1 (e.x * 8 + (k : Int) % 8) (e.y * 8 + (k : Int) / 8) (e.t k)).1, upd (runT F e k s).2 k (F (runT F e k s).1 (e.x * 8 + (k : Int) % 8) (e.y * 8 + (k : Int) / 8) (e.t k)).2)
/-- The first k tiles mapped: the state behind them, the tiles that are not transparent. -/
def mapK {σ : Type} (F : σ → Int → Int → Px → σ × Px) (ls : List TA) (s : σ) : Nat → σ × List TA
  | 0 => (s, [])
  | k + 1 => ((runT F (aT ls k) 64 (mapK F ls s k).1).1, (mapK F ls s k).2 ++ newA (aT ls k).x (aT ls k).y (runT F (aT ls k) 64 (mapK F ls s k).1).2)
theorem mapK_length {σ : Type} (F : σ → Int → Int → Px → σ × Px) (ls : List TA) (s : σ) (k : Nat) : (mapK F ls s k).2.length ≤ k := by
  induction k with
  | zero => exact Nat.le_refl _
  | succ k ih =>
    show ((mapK F ls s k).2 ++ newA _ _ _).length ≤ _
    rw [List.length_append]
    have := newA_length (aT ls k).x (aT ls k).y (runT F (aT ls k) 64 (mapK F ls s k).1).2
    omega
theorem runT_tok {σ : Type} {F : σ → Int → Int → Px → σ × Px} (hF : ∀ s x y p, p.ok → (F s x y p).2.ok) {e : TA} (h : Tok e.t) (s : σ) : ∀ k, k ≤ 64 → Tok (runT F e k s).2
  | 0, _ => h
  | k + 1, hk => fun i hi => by
    show (upd _ k _ i).ok
    unfold upd
    split
    · exact hF _ _ _ _ (h k (by omega))
    · exact runT_tok hF h s k (by omega) i hi
theorem OwnT.ownlt {B : Nat} {v : Value} {ls : List TA} {w : World} (h : OwnT B v ls w) : ∀ k, v.ownBlock = some k → k < w.heap.size := by
  intro k hk
  obtain ⟨_, h2⟩ := h
  rcases h2 with ⟨rfl, h0⟩ | ⟨g, cap, cur, rfl, hb, hg, _⟩
  · cases hk
  · have e : some g = some k := hk
    injection e with e
    subst e
    exact (Array.getElem?_eq_some_iff.1 hg).1
theorem OwnT.chgN {B b : Nat} {v : Value} {ls : List TA} {w w' : World} (h : OwnT B v ls w) (hc : Chg b w w') (hne : ∀ k, v.ownBlock = some k → k ≠ b) : OwnT B v ls w' := by
  refine World.ownsRow.kept (row := some b) h ⟨hc.os, hc.tape, hc.output, hc.size, fun k hk hn => hc.block k hk (fun e => hn (by rw [e]))⟩ ?_
  cases hv : v.ownBlock with
  | none => exact .inl rfl
  | some k =>
    right
    intro e
    injection e with e
    exact hne k hv e
set_option maxHeartbeats 4000000 in
theorem P_mapped {σ : Type} (F : σ → Int → Int → Px → σ × Px) (I : σ → World → Prop) (cb gf : Nat) (lb : Array Value) (eg : Enters Try.prog gf) (v : Value) (ls : List TA) (s0 : σ) (w : World) (hs : RS v ls w) (tk : TokL ls) (hn : ls.length ≤ 2000) (hpos : ∀ e ∈ ls, withinB e.x e.y = true)
    (hcb : cb < w.heap.size) (hsep : 0 < ls.length → v.ownBlock ≠ some cb) (hI0 : I s0 w)
    (hIb : ∀ s W W', I s W → (∀ k, k < w.heap.size → W'.heap[k]? = W.heap[k]?) → I s W')
    (hF : ∀ (s : σ) (W : World) (x y : Int) (p : Px), w.heap.size ≤ W.heap.size → I s W → -65536 ≤ x → x ≤ 65535 → -65536 ≤ y → y ≤ 65535 → p.ok →
      Calls Try.prog gf (#[.int .i64 x, .int .i64 y, Px.v p] ++ lb) W fun e W' => e = .returned (Px.v (F s x y p).2) ∧ I (F s x y p).1 W' ∧ Chg cb W W')
    (hok : ∀ s x y p, p.ok → (F s x y p).2.ok) :
    Calls Try.prog 79 #[v, .func (.func gf) #[] lb] w fun e w' => ∃ v', e = .returned v' ∧ OwnT w.heap.size v' (mapK F ls s0 ls.length).2 w' ∧ I (mapK F ls s0 ls.length).1 w' ∧ Chg cb w w' := by
  have eg' : ∀ args w, (callFunc gf args).run Try.prog w = .ok (.enter gf args) w := eg
  obtain ⟨a, c, rfl, hc⟩ := hs.len
  have HS := Lib.hid hs
  have HK := Lib.hid tk
  have HP := Lib.hid hpos
  have HF := Lib.hid hF
  have HI := Lib.hid hIb
  have HO := Lib.hid hok
  have SEP := Lib.hid hsep
  have B := Exc.refl cb w
  have od := OwnT.nil w.heap.size w
  have hI := hI0
  clear hs tk hpos hF hIb hok hI0 hsep
  go_enter Try.func79, Try.ntmps79
  go_wp2
  go_loopw [5, 7, 8, 9, 12] (fun out _ _ _ i wr => ∃ (k : Nat) (a5 : Option Addr) (n5 c5 : Nat), k ≤ ls.length ∧ i = .int .i64 k ∧ out = .slice a5 n5 c5 ∧ n5 = (mapK F ls s0 k).2.length ∧ Exc cb w.heap.size w wr ∧ OwnT w.heap.size (.slice a5 n5 c5) (mapK F ls s0 k).2 wr ∧ I (mapK F ls s0 k).1 wr) (fun _ _ _ _ i _ => (ls.length - intOf i).toNat)
  case atStart => exact ⟨0, none, 0, 0, by omega, rfl, rfl, rfl, B, od, hI⟩
  case round =>
    clear B od hI
    obtain ⟨k, a5, n5, c5, hk, rfl, rfl, hn5, B, od, hI⟩ := hrel
    have HN5 := Lib.hid hn5
    clear hn5
    have hml := mapK_length F ls s0 k
    obtain ⟨⟨s, acc⟩, hsm⟩ : ∃ m, mapK F ls s0 k = m := ⟨_, rfl⟩
    rw [hsm] at od hI hml
    have HN5' := Lib.hid (show n5 = acc.length from by have := HN5.out; rw [hsm] at this; exact this)
    have HSM := Lib.hid hsm
    clear hsm HN5
    have od : OwnT w.heap.size (.slice a5 n5 c5) acc _ := od
    have hI : I s _ := hI
    have hml : acc.length ≤ k := hml
    by_cases hkl : k < ls.length
    · obtain ⟨gg, o, rfl, rc0⟩ := HS.out.at (by omega)
      have hg0 := rc0.lt
      have hgc : gg ≠ cb := fun e => (SEP.out (by omega)) (by rw [e]; rfl)
      have rc := rc0.of_eq (B.block _ rc0.lt hgc)
      clear rc0
      obtain ⟨⟨x, y, t⟩, he⟩ : ∃ e, aT ls k = e := ⟨_, rfl⟩
      have htk : Tok t := by have := HK.out.at hkl; rw [he] at this; exact this
      have hT := Lib.hid htk
      have hw := HP.out _ (List.mem_iff_getElem?.2 ⟨k, aT_at hkl⟩)
      rw [he] at hw
      have hw := of_decide_eq_true hw
      obtain ⟨w1, w2, w3, w4⟩ := hw
      have HOB := Lib.hid od.ownlt
      have hsz0 := B.size
      go_wp2_with (first | (refine wpList_loadAny (t := 40) rfl _ rfl _ _ _ rfl (ta_tile t1) (by first | rfl | omega) ?_; simp only [Act.put, putS]) | (refine wpList_storeB (t := 79) rfl _ _ rfl _ rfl _ rfl t1 (by rw [size_taC]; kernel_rfl) (by simp only [size_taC, size_zTA]) (taC_all _) ?_; clear t1; intro wn ht hcn hzn; have hsz := B.size; replace hzn := Nat.le_of_eq hzn.symm; replace B := Exc.store B hcn (by omega); replace hI := HI.out _ _ _ hI (fun k hk => hcn.block k (by omega) (by omega)); replace od := od.chgN hcn (fun kk hkk => Nat.ne_of_lt (Nat.lt_of_lt_of_le (HOB.out kk hkk) (by omega))); (try replace q1 := q1.of_eq (hcn.block _ q1.lt (by omega))); (try replace od := od.of_eq (hcn.block _ od.lt (by omega))); have t1 := ht; clear ht; simp only [Act.put, putS]) | (refine wpList_allocBk (t := 79) rfl _ (run_alloc_TA _ _ rfl) ?_; intro b_t1 wn hle hge ht hbn hzn; have hsz := B.size; replace B := B.trans (hbn.mono (by omega)); replace hI := HI.out _ _ _ hI (fun k hk => hbn.block k (by omega)); have hln := Nat.lt_of_lt_of_eq (Nat.lt_succ_self _) hzn.symm; clear hzn; (try first | (have hlt := t1.lt; replace t1 := t1.of_eq (hbn.block _ (by omega))) | replace t1 := t1.below (hbn.mono hle)); (try first | (have hlt := q1.lt; replace q1 := q1.of_eq (hbn.block _ (by omega))) | replace q1 := q1.below (hbn.mono hle)); (try first | (have hlt := od.lt; replace od := od.of_eq (hbn.block _ (by omega))) | replace od := od.below (hbn.mono hle)); have t1 := ht; clear ht; simp only [Act.put, putS]) | (refine wpList_loadAny (t := 79) rfl _ rfl _ _ _ rfl (rc_ta rc hkl he) (by first | rfl | omega) ?_; simp only [Act.put, putS]) | fail)
      have hb1 := hle
      have hmul1 : (2 : Nat) ≤ 2 := Nat.le_refl _
      go_loopw [8, 9, 18] (fun _ _ j wx => ∃ i : Nat, i ≤ 64 ∧ j = .int .i64 i ∧ Exc cb w.heap.size w wx ∧ b_t1 < wx.heap.size ∧ AtB 79 wx b_t1 (taC ⟨x, y, (runT F ⟨x, y, t⟩ i s).2⟩) ∧ OwnT w.heap.size (.slice a5 n5 c5) acc wx ∧ I (runT F ⟨x, y, t⟩ i s).1 wx) (fun _ _ j _ => (64 - intOf j).toNat)
      case atStart => exact ⟨0, by omega, rfl, B, t1.lt, t1, od, hI⟩
      case round =>
        clear B t1 od hI
        obtain ⟨i, hi, rfl, B, hbl, t1, od, hI⟩ := hrel
        by_cases hil : i < 64
        · have hix := index_tile t i hil
          have hpk : (t i).ok := hT.out i hil
          have d8 : (0 : Int) ≤ (i : Int) % 8 ∧ (i : Int) % 8 < 8 := by omega
          have d9 : (0 : Int) ≤ (i : Int) / 8 ∧ (i : Int) / 8 < 8 := by omega
          obtain ⟨u, hu⟩ : ∃ u, runT F ⟨x, y, t⟩ i s = u := ⟨_, rfl⟩
          rw [hu] at t1 hI
          have HU := Lib.hid hu
          clear hu
          go_wp2_with (first | (refine wpList_storeTAp rfl _ _ rfl _ _ rfl (_) rfl t1 (i) (hil) (by first | rfl | omega) ?_; clear t1; intro wn ht hcn hzn; have hsz := B.size; replace hzn := Nat.le_of_eq hzn.symm; replace B := Exc.store B hcn (by omega); replace hI := HI.out _ _ _ hI (fun k hk => hcn.block k (by omega) (by omega)); replace od := od.chgN hcn (fun kk hkk => Nat.ne_of_lt (Nat.lt_of_lt_of_le (HOB.out kk hkk) (by omega))); (try replace q1 := q1.of_eq (hcn.block _ q1.lt (by omega))); have t1 := ht; clear ht; simp only [Act.put, putS]) | (go_at_fn gf; refine (HF.out _ _ _ _ _ (by omega) hI (by omega) (by omega) (by omega) (by omega) hpk).mono ?_; rintro e' wn ⟨rfl, hI, hcc⟩; have hsz := B.size; have hzn := hcc.size; replace B := B.chg hcc; replace t1 := t1.of_eq (hcc.block _ t1.lt (by omega)); replace od := od.chg hcc hcb) | (refine wpList_loadAny (t := 3) rfl _ rfl _ _ _ rfl (run_load_int (t1.cell 0 (taC_x _))) (by first | rfl | omega) ?_; simp only [Act.put, putS]) | (refine wpList_loadAny (t := 3) rfl _ rfl _ _ _ rfl (run_load_int (t1.cell 1 (taC_y _))) (by first | rfl | omega) ?_; simp only [Act.put, putS]) | (refine wpList_loadPx rfl _ rfl _ rfl q1 ?_; simp only [Act.put, putS]) | (refine wpList_storePx rfl _ _ rfl _ rfl (_) rfl q1 ?_; clear q1; intro wn ht hcn hzn; have hsz := B.size; replace hzn := Nat.le_of_eq hzn.symm; replace B := Exc.store B hcn (by omega); replace hI := HI.out _ _ _ hI (fun k hk => hcn.block k (by omega) (by omega)); replace od := od.chgN hcn (fun kk hkk => Nat.ne_of_lt (Nat.lt_of_lt_of_le (HOB.out kk hkk) (by omega))); (try replace t1 := t1.of_eq (hcn.block _ t1.lt (by omega))); have q1 := ht; clear ht; simp only [Act.put, putS]) | (refine wpList_allocPx' rfl rfl ?_; intro b_q1 wn hle hge ht hbn hzn; have hsz := B.size; replace B := B.trans (hbn.mono (by omega)); replace hI := HI.out _ _ _ hI (fun k hk => hbn.block k (by omega)); have hln := Nat.lt_of_lt_of_eq (Nat.lt_succ_self _) hzn.symm; clear hzn; (try replace od := od.below (hbn.mono hle)); (try first | (have hlt := t1.lt; replace t1 := t1.of_eq (hbn.block _ (by omega))) | replace t1 := t1.below (hbn.mono hle)); (try first | (have hlt := q1.lt; replace q1 := q1.of_eq (hbn.block _ (by omega))) | replace q1 := q1.below (hbn.mono hle)); (try first | (have hlt := od.lt; replace od := od.of_eq (hbn.block _ (by omega))) | replace od := od.below (hbn.mono hle)); have q1 := ht; clear ht; simp only [Act.put, putS]) | fail)
          go_roundw
          case rel => exact ⟨i + 1, by omega, by go_num, B, by have := t1.lt; omega, by show AtB _ _ _ (taC ⟨x, y, upd (runT F ⟨x, y, t⟩ i s).2 i (F (runT F ⟨x, y, t⟩ i s).1 (x * 8 + (i : Int) % 8) (y * 8 + (i : Int) / 8) (t i)).2⟩); rw [HU.out]; exact t1, od, by show I (F (runT F ⟨x, y, t⟩ i s).1 (x * 8 + (i : Int) % 8) (y * 8 + (i : Int) / 8) (t i)).1 _; rw [HU.out]; exact hI⟩
          case measure => simp [intOf]; omega
        · obtain rfl : i = 64 := by omega
          obtain ⟨⟨s', u⟩, hu⟩ : ∃ u, runT F ⟨x, y, t⟩ 64 s = u := ⟨_, rfl⟩
          have hut : Tok u := by have := runT_tok (e := ⟨x, y, t⟩) HO.out hT.out s 64 (Nat.le_refl _); rw [hu] at this; exact this
          rw [hu] at t1 hI
          have HU := Lib.hid hu
          clear hu
          have t1 : AtB 79 _ b_t1 (taC ⟨x, y, u⟩) := t1
          have hI : I s' _ := hI
          have es := Lib.hid (show mapK F ls s0 (k + 1) = (s', acc ++ newA x y u) from by
            show ((runT F (aT ls k) 64 (mapK F ls s0 k).1).1, (mapK F ls s0 k).2 ++ newA (aT ls k).x (aT ls k).y (runT F (aT ls k) 64 (mapK F ls s0 k).1).2) = _
            rw [HSM.out, he, HU.out])
          cases hz : zeroB u with
          | true =>
            have HN := Lib.hid (show newA x y u = [] from by unfold newA; rw [hz]; rfl)
            go_wp2_with (first | (go_at_call 53; refine (P_Zero _ _ hut).mono ?_; rintro e wn ⟨rfl, hbn⟩; have hsz := B.size; have hzn := hbn.size; replace B := B.trans (hbn.mono B.size); replace hI := HI.out _ _ _ hI (fun k hk => hbn.block k (by omega)); (try first | replace t1 := t1.of_eq (hbn.block _ t1.lt) | replace t1 := t1.below hbn); (try first | replace od := od.of_eq (hbn.block _ od.lt) | replace od := od.below hbn)) | (refine wpList_loadAny (t := 40) rfl _ rfl _ _ _ rfl (ta_tile t1) (by first | rfl | omega) ?_; simp only [Act.put, putS]) | fail)
            go_roundw
            case rel => exact ⟨k + 1, _, _, _, by omega, by go_num, rfl, by rw [es.out, HN.out]; simp [HN5'.out], B, by rw [es.out, HN.out]; simpa using od, by rw [es.out]; exact hI⟩
            case measure => simp [intOf]; omega
          | false =>
            have HN := Lib.hid (show newA x y u = [⟨x, y, u⟩] from by unfold newA; rw [hz]; rfl)
            have hlen : acc.length + 1 ≤ 100000 := by omega
            have hn5 := HN5'.out
            clear HN5'
            subst hn5
            go_wp2_with (first | (at_builtin; refine wpList_appendT rfl _ _ rfl _ _ rfl rfl od ((RS.one s1)) (by simp only [List.length_cons, List.length_nil]; omega) (by omega) ?_; intro v_od wn ht hbn; have hsz := B.size; have hzn := hbn.size; replace B := B.trans (hbn.mono (by omega)); replace hI := HI.out _ _ _ hI (fun k hk => hbn.block k (by omega)); clear od; have od := ht; clear ht; obtain ⟨a_od, c_od, hv, hco⟩ := od.len; (try simp only [List.length_append, List.length_cons, List.length_nil, Nat.zero_add] at hv hco); subst hv; simp only [Act.put, putS]) | (refine wpList_bs1T rfl _ rfl ⟨x, y, u⟩ (by rfl) ?_; intro b_s1 wn hle hge ht hbn hzn; have hsz := B.size; replace B := B.trans (hbn.mono (by omega)); replace hI := HI.out _ _ _ hI (fun k hk => hbn.block k (by omega)); have hln := Nat.lt_of_lt_of_eq (Nat.lt_succ_self _) hzn.symm; clear hzn; (try first | (have hlt := od.lt; replace od := od.of_eq (hbn.block _ (by omega))) | replace od := od.below (hbn.mono hle)); have s1 := ht; clear ht; simp only [Act.put, putS]) | (refine wpList_loadAny (t := 79) rfl _ rfl _ _ _ rfl (run_load_B t1 Try.isAgg79 (ta_size _)) (by rfl) ?_; simp only [Act.put, putS]) | (go_at_call 53; refine (P_Zero _ _ hut).mono ?_; rintro e wn ⟨rfl, hbn⟩; have hsz := B.size; have hzn := hbn.size; replace B := B.trans (hbn.mono B.size); replace hI := HI.out _ _ _ hI (fun k hk => hbn.block k (by omega)); (try first | replace t1 := t1.of_eq (hbn.block _ t1.lt) | replace t1 := t1.below hbn); (try first | replace od := od.of_eq (hbn.block _ od.lt) | replace od := od.below hbn)) | (refine wpList_loadAny (t := 40) rfl _ rfl _ _ _ rfl (ta_tile t1) (by first | rfl | omega) ?_; simp only [Act.put, putS]) | fail)
            go_roundw
            case rel => exact ⟨k + 1, _, _, _, by omega, by go_num, rfl, by rw [es.out, HN.out]; simp, B, by rw [es.out, HN.out]; exact od, by rw [es.out]; exact hI⟩
            case measure => simp [intOf]; omega
    · obtain rfl : k = ls.length := by omega
      go_wp2
      go_ret
      exact ⟨_, rfl, by rw [HSM.out]; exact od, by rw [HSM.out]; exact hI, B.toChg⟩
end Go.Proofs.Ytppccnjckiedlaa
/- Contracts of Bounds and Crop of package raster. -/
namespace Go.Proofs.Ytppccnjckiedlaa
open Go.RowKit Go.Shelf Pl
set_option linter.unusedVariables false
set_option linter.unusedSimpArgs false
set_option maxRecDepth 20000

def rcA (r : Rc) : Array Value := #[.int .i64 r.x0, .int .i64 r.y0, .int .i64 r.x1, .int .i64 r.y1]
theorem Rc.v_A (r : Rc) : Rc.v r = .agg (rcA r) := rfl
def boundF (s : Rc) (x y : Int) (p : Px) : Rc × Px := (if 0 < p.a then unionR s ⟨x, y, x + 1, y + 1⟩ else s, p)
def boundL (ls : List TA) : Rc := (mapK boundF ls Rc.zero ls.length).1
def cropF (c : Rc) (s : Unit) (x y : Int) (p : Px) : Unit × Px := ((), if hasR c x y = true then p else Px.zero)
def cropL (c : Rc) (ls : List TA) : List TA := (mapK (cropF c) ls () ls.length).2
theorem boundF_ok (s : Rc) (x y : Int) (p : Px) (h : p.ok) : (boundF s x y p).2.ok := h
theorem rs_sep {v : Value} {ls : List TA} {w : World} (h : RS v ls w) {cb : Nat} (hc : w.heap.size ≤ cb) : 0 < ls.length → v.ownBlock ≠ some cb := by
  intro hn e
  rcases h with ⟨rfl, rfl⟩ | ⟨g, o, c, rfl, _, sc⟩
  · exact absurd hn (by decide)
  · have e : some g = some cb := e
    injection e with e
    have := (sc hn).lt
    omega
theorem fine_pos (ls : List TA) : ∀ e ∈ fineL ls, withinB e.x e.y = true := fun e he => by
  have := validL_good (fineL_valid ls) e he
  unfold goodA at this
  exact (Bool.and_eq_true_iff.1 this).1
theorem px_a {w : World} {b : Nat} {p : Px} (h : PixAt w b p) : w.cell? ⟨b, 3, none⟩ = some (.int .u8 p.a) := ((cells_of_block h).1 3).trans rfl
theorem P_Bounds1 (s : Rc) (x y : Int) (p : Px) (cb : Nat) (w : World) (r0 : AtB 64 w cb (rcA s)) (hx0 : -65536 ≤ x) (hx : x ≤ 65535) (hy0 : -65536 ≤ y) (hy : y ≤ 65535) (hp : p.ok) : Calls Try.prog 83 #[.int .i64 x, .int .i64 y, Px.v p, .pointer (some ⟨cb, 0, none⟩)] w fun e w' => e = .returned (Px.v (boundF s x y p).2) ∧ AtB 64 w' cb (rcA (boundF s x y p).1) ∧ Chg cb w w' := by
  have B := Exc.refl cb w
  have hcb := r0.lt
  obtain ⟨_, _, _, hp1, hp2⟩ := hp
  by_cases ha : 0 < p.a
  · have e1 := Lib.hid (show boundF s x y p = (unionR s ⟨x, y, x + 1, y + 1⟩, p) from by unfold boundF; rw [if_pos ha])
    have d1 : decide (0 < p.a) = true := decide_eq_true ha
    go_enter Try.func83, Try.ntmps83
    go_wp2_with (first | (refine wpList_storePx rfl _ _ rfl _ rfl (_) rfl q2 ?_; clear q2; intro wn ht hcn hzn; have hsz := B.size; replace hzn := Nat.le_of_eq hzn.symm; replace B := Exc.store B hcn (by omega); (try replace r0 := r0.of_eq (hcn.block _ r0.lt (by omega))); (try replace q1 := q1.of_eq (hcn.block _ q1.lt (by omega))); have q2 := ht; clear ht; simp only [Act.put, putS]) | (refine wpList_loadPx rfl _ rfl _ rfl q1 ?_; simp only [Act.put, putS]) | (refine wpList_storeB (t := 64) rfl _ _ rfl _ rfl _ rfl r0 (by kernel_rfl) rfl (by simp [Value.oneCell']) ?_; clear r0; intro wn ht hcn hzn; have hsz := B.size; replace hzn := Nat.le_of_eq hzn.symm; replace B := Exc.chg B hcn; (try replace q1 := q1.of_eq (hcn.block _ q1.lt (by omega))); (try replace q2 := q2.of_eq (hcn.block _ q2.lt (by omega))); have r0 := ht; clear ht; simp only [Act.put, putS]) | (go_at_call 84; refine (P_Union s ⟨x, y, x + 1, y + 1⟩ _).mono ?_; rintro e wn ⟨rfl, hbn⟩; have hsz := B.size; have hzn := hbn.size; replace B := B.trans (hbn.mono B.size); (try first | replace r0 := r0.of_eq (hbn.block _ r0.lt) | replace r0 := r0.below hbn); (try first | replace q1 := q1.of_eq (hbn.block _ q1.lt) | replace q1 := q1.below hbn); (try first | replace q2 := q2.of_eq (hbn.block _ q2.lt) | replace q2 := q2.below hbn)) | (refine wpList_loadAny (t := 64) rfl _ rfl _ _ _ rfl (run_load_B r0 Try.isAgg64 (by kernel_rfl)) (by rfl) ?_; simp only [Act.put, putS]) | (refine wpList_loadAny (t := 5) rfl _ rfl _ _ _ rfl (run_load_u8 (px_a q1)) (by rfl) ?_; simp only [Act.put, putS]) | (have _ := q1; refine wpList_allocPx' rfl rfl ?_; intro b_q2 wn hle hge ht hbn hzn; have hsz := B.size; replace B := B.trans (hbn.mono (by omega)); have hln := Nat.lt_of_lt_of_eq (Nat.lt_succ_self _) hzn.symm; clear hzn; (try first | (have hlt := r0.lt; replace r0 := r0.of_eq (hbn.block _ (by omega))) | replace r0 := r0.below (hbn.mono hle)); (try first | (have hlt := q1.lt; replace q1 := q1.of_eq (hbn.block _ (by omega))) | replace q1 := q1.below (hbn.mono hle)); (try first | (have hlt := q2.lt; replace q2 := q2.of_eq (hbn.block _ (by omega))) | replace q2 := q2.below (hbn.mono hle)); have q2 := ht; clear ht; simp only [Act.put, putS]) | (refine wpList_boxPx' rfl _ rfl _ rfl ?_; intro b_q1 wn hle hge ht hbn hzn; have hsz := B.size; replace B := B.trans (hbn.mono (by omega)); have hln := Nat.lt_of_lt_of_eq (Nat.lt_succ_self _) hzn.symm; clear hzn; (try first | (have hlt := r0.lt; replace r0 := r0.of_eq (hbn.block _ (by omega))) | replace r0 := r0.below (hbn.mono hle)); (try first | (have hlt := q1.lt; replace q1 := q1.of_eq (hbn.block _ (by omega))) | replace q1 := q1.below (hbn.mono hle)); (try first | (have hlt := q2.lt; replace q2 := q2.of_eq (hbn.block _ (by omega))) | replace q2 := q2.below (hbn.mono hle)); have q1 := ht; clear ht; simp only [Act.put, putS]) | fail)
    refine bodyPost_ret (results_px rfl _ _ (b_q2) rfl q2) rfl ?_
    exact ⟨by rw [e1.out], by rw [e1.out]; exact r0, B.toChg⟩
  · have e1 := Lib.hid (show boundF s x y p = (s, p) from by unfold boundF; rw [if_neg ha])
    have d1 : decide (0 < p.a) = false := decide_eq_false ha
    go_enter Try.func83, Try.ntmps83
    go_wp2_with (first | (refine wpList_storePx rfl _ _ rfl _ rfl (_) rfl q2 ?_; clear q2; intro wn ht hcn hzn; have hsz := B.size; replace hzn := Nat.le_of_eq hzn.symm; replace B := Exc.store B hcn (by omega); (try replace r0 := r0.of_eq (hcn.block _ r0.lt (by omega))); (try replace q1 := q1.of_eq (hcn.block _ q1.lt (by omega))); have q2 := ht; clear ht; simp only [Act.put, putS]) | (refine wpList_loadPx rfl _ rfl _ rfl q1 ?_; simp only [Act.put, putS]) | (refine wpList_loadAny (t := 5) rfl _ rfl _ _ _ rfl (run_load_u8 (px_a q1)) (by rfl) ?_; simp only [Act.put, putS]) | (have _ := q1; refine wpList_allocPx' rfl rfl ?_; intro b_q2 wn hle hge ht hbn hzn; have hsz := B.size; replace B := B.trans (hbn.mono (by omega)); have hln := Nat.lt_of_lt_of_eq (Nat.lt_succ_self _) hzn.symm; clear hzn; (try first | (have hlt := r0.lt; replace r0 := r0.of_eq (hbn.block _ (by omega))) | replace r0 := r0.below (hbn.mono hle)); (try first | (have hlt := q1.lt; replace q1 := q1.of_eq (hbn.block _ (by omega))) | replace q1 := q1.below (hbn.mono hle)); (try first | (have hlt := q2.lt; replace q2 := q2.of_eq (hbn.block _ (by omega))) | replace q2 := q2.below (hbn.mono hle)); have q2 := ht; clear ht; simp only [Act.put, putS]) | (refine wpList_boxPx' rfl _ rfl _ rfl ?_; intro b_q1 wn hle hge ht hbn hzn; have hsz := B.size; replace B := B.trans (hbn.mono (by omega)); have hln := Nat.lt_of_lt_of_eq (Nat.lt_succ_self _) hzn.symm; clear hzn; (try first | (have hlt := r0.lt; replace r0 := r0.of_eq (hbn.block _ (by omega))) | replace r0 := r0.below (hbn.mono hle)); (try first | (have hlt := q1.lt; replace q1 := q1.of_eq (hbn.block _ (by omega))) | replace q1 := q1.below (hbn.mono hle)); (try first | (have hlt := q2.lt; replace q2 := q2.of_eq (hbn.block _ (by omega))) | replace q2 := q2.below (hbn.mono hle)); have q1 := ht; clear ht; simp only [Act.put, putS]) | fail)
    refine bodyPost_ret (results_px rfl _ _ (b_q2) rfl q2) rfl ?_
    exact ⟨by rw [e1.out], by rw [e1.out]; exact r0, B.toChg⟩
set_option maxHeartbeats 1000000 in
theorem P_BoundsR (v : Value) (ls : List TA) (w : World) (h : RS v ls w) (tk : TokL ls) (hn : ls.length ≤ maxLen) : Calls Try.prog 38 #[.agg #[v]] w fun e w' => e = .returned (Rc.v (boundL (fineL ls))) ∧ Below w.heap.size w w' := by
  have B := Below.refl w.heap.size w
  obtain ⟨a', c', hT⟩ := P_tiles v ls w h tk hn
  have HR0 := Lib.hid (hT w (Below.refl _ _)).2
  have HT := Lib.hid hT
  clear hT
  obtain ⟨a, c, rfl, hc⟩ := h.len
  have TK := Lib.hid (fineL_tok tk)
  have HP := Lib.hid (fine_pos ls)
  have hfl := fineL_length ls
  have eg := enters_of Try.func83 (by kernel_rfl) rfl
  go_enter Try.func38, Try.ntmps38
  go_upto_region 2 with (first | (have _ := r2; refine wpList_allocBk (t := 64) rfl _ (run_alloc_Rc _ _ rfl) ?_; intro b_r0 wn hle hge ht hbn hzn; have hsz := B.size; replace B := B.trans (hbn.mono (by omega)); have hln := Nat.lt_of_lt_of_eq (Nat.lt_succ_self _) hzn.symm; clear hzn; (try first | (have hlt := r1.lt; replace r1 := r1.of_eq (hbn.block _ (by omega))) | replace r1 := r1.below (hbn.mono hle)); (try first | (have hlt := r2.lt; replace r2 := r2.of_eq (hbn.block _ (by omega))) | replace r2 := r2.below (hbn.mono hle)); (try first | (have hlt := r0.lt; replace r0 := r0.of_eq (hbn.block _ (by omega))) | replace r0 := r0.below (hbn.mono hle)); have r0 := ht; clear ht; simp only [Act.put, putS]) | (have _ := r1; refine wpList_allocBk (t := 64) rfl _ (run_alloc_Rc _ _ rfl) ?_; intro b_r2 wn hle hge ht hbn hzn; have hsz := B.size; replace B := B.trans (hbn.mono (by omega)); have hln := Nat.lt_of_lt_of_eq (Nat.lt_succ_self _) hzn.symm; clear hzn; (try first | (have hlt := r1.lt; replace r1 := r1.of_eq (hbn.block _ (by omega))) | replace r1 := r1.below (hbn.mono hle)); (try first | (have hlt := r2.lt; replace r2 := r2.of_eq (hbn.block _ (by omega))) | replace r2 := r2.below (hbn.mono hle)); (try first | (have hlt := r0.lt; replace r0 := r0.of_eq (hbn.block _ (by omega))) | replace r0 := r0.below (hbn.mono hle)); have r2 := ht; clear ht; simp only [Act.put, putS]) | (refine wpList_boxB (t := 30) rfl _ rfl _ rfl ?_; intro b_r1 wn hle hge ht hbn hzn; have hsz := B.size; replace B := B.trans (hbn.mono (by omega)); have hln := Nat.lt_of_lt_of_eq (Nat.lt_succ_self _) hzn.symm; clear hzn; (try first | (have hlt := r1.lt; replace r1 := r1.of_eq (hbn.block _ (by omega))) | replace r1 := r1.below (hbn.mono hle)); (try first | (have hlt := r2.lt; replace r2 := r2.of_eq (hbn.block _ (by omega))) | replace r2 := r2.below (hbn.mono hle)); (try first | (have hlt := r0.lt; replace r0 := r0.of_eq (hbn.block _ (by omega))) | replace r0 := r0.below (hbn.mono hle)); have r1 := ht; clear ht; simp only [Act.put, putS]) | fail)
  have k0 : w.heap.size ≤ b_r0 := by omega
  have k1 : b_r2 < b_r0 := by have := r2.lt; omega
  go_wp2_with (first | (go_at_call 79; have hr0 := r0.lt; have hsp := rs_sep HR0.out k0; have hsz := B.size; refine (P_mapped boundF (fun s W => AtB 64 W b_r0 (rcA s)) b_r0 83 #[.pointer (some ⟨b_r0, 0, none⟩)] eg _ (fineL ls) Rc.zero _ (HT.out _ B).2 TK.out (by omega) HP.out hr0 hsp r0 (fun s W W' hI hk => hI.of_eq (hk _ hr0)) (fun s W x y p _ hI h1 h2 h3 h4 hp => P_Bounds1 s x y p b_r0 W hI h1 h2 h3 h4 hp) boundF_ok).mono ?_; rintro e wn ⟨v1, rfl, _, hI, hcc⟩; have hzn := hcc.size; replace r2 := r2.of_eq (hcc.block _ r2.lt (by omega)); replace B := Chg.below B hcc k0 hsz; have r0 := hI; clear hI) | (go_at_call 68; refine (HT.out _ B).1.mono ?_; rintro e wn ⟨rfl, hbn⟩; have hsz := B.size; have hzn := hbn.size; replace B := B.trans (hbn.mono B.size); (try first | replace r1 := r1.of_eq (hbn.block _ r1.lt) | replace r1 := r1.below hbn); (try first | replace r2 := r2.of_eq (hbn.block _ r2.lt) | replace r2 := r2.below hbn); (try first | replace r0 := r0.of_eq (hbn.block _ r0.lt) | replace r0 := r0.below hbn)) | (refine wpList_loadAny (t := 30) rfl _ rfl _ _ _ rfl (run_load_B r1 Try.isAgg30 (by kernel_rfl)) (by rfl) ?_; simp only [Act.put, putS]) | (refine wpList_loadAny (t := 64) rfl _ rfl _ _ _ rfl (run_load_B r0 Try.isAgg64 (by kernel_rfl)) (by rfl) ?_; simp only [Act.put, putS]) | (refine wpList_storeB (t := 64) rfl _ _ rfl _ rfl _ rfl r2 (by kernel_rfl) rfl (by simp [rcA, Value.oneCell']) ?_; clear r2; intro wn ht hcn hzn; have hsz := B.size; replace hzn := Nat.le_of_eq hzn.symm; replace B := Chg.below B hcn (by omega) B.size; (try replace r1 := r1.of_eq (hcn.block _ r1.lt (by omega))); (try replace r0 := r0.of_eq (hcn.block _ r0.lt (by omega))); have r2 := ht; clear ht; simp only [Act.put, putS]) | fail)
  refine bodyPost_ret (results_B (t := 64) rfl _ _ (b_r2) rfl r2 Try.isAgg64 (by kernel_rfl)) rfl ?_
  exact ⟨rfl, B⟩
end Go.Proofs.Ytppccnjckiedlaa
/- Contracts of the reference's Bounds and Crop. -/
namespace Go.Proofs.Ytppccnjckiedlaa
open Go.RowKit Go.Shelf Pl
set_option linter.unusedVariables false
set_option linter.unusedSimpArgs false
set_option maxRecDepth 20000

end Go.Proofs.Ytppccnjckiedlaa
/- Slices of elements of whatever type: rows in memory, rows that the call owns; append, literals of one element. -/
namespace Go.Proofs.Ytppccnjckiedlaa
open Go.RowKit
set_option linter.unusedVariables false
set_option linter.unusedSimpArgs false
set_option maxRecDepth 20000

/-- An element type: T the element's, ST the slice's number; its k cells. -/
structure Elt (α : Type) (k : Nat) (T ST : TypeId) where
  enc : α → Array Value
  bytes : Nat
  zero : α
  size : ∀ x, (enc x).size = k
  one : ∀ x, ∀ u ∈ (enc x).toList, u.oneCell' = true
  pos : 0 < k
  small : bytes ≤ 1000
  und : Try.prog.underlying ST = some (.slice T)
  info : (Try.prog.info? T).map (fun i => (i.size, i.bytes)) = some (k, bytes)
  zer : ((Try.prog.info? T).bind (·.zero)).map Value.cells = some (enc zero)
section
variable {α : Type} {k : Nat} {T ST : TypeId} (E : Elt α k T ST)
theorem Elt.facts : ∃ i z, Try.prog.info? T = some i ∧ i.zero = some z ∧ i.size = k ∧ i.bytes = E.bytes ∧ z.cells = E.enc E.zero := by
  have h1 := E.info
  have h2 := E.zer
  cases hi : Try.prog.info? T with
  | none => rw [hi] at h1; cases h1
  | some i =>
    rw [hi] at h1 h2
    cases hz : i.zero with
    | none => simp [hz] at h2
    | some z =>
      simp [hz] at h1 h2
      exact ⟨i, z, rfl, hz, h1.1, h1.2, h2⟩
/-- The cells of a row. -/
def rowE : List α → List Value
  | [] => []
  | e :: r => (E.enc e).toList ++ rowE r
theorem rowE_length (ls : List α) : (rowE E ls).length = ls.length * k := by
  induction ls with
  | nil => simp [rowE]
  | cons e r ih => show ((E.enc e).toList ++ rowE E r).length = _; rw [List.length_append, ih, Array.length_toList, E.size, List.length_cons, Nat.succ_mul]; omega
theorem rowE_at (ls : List α) : ∀ i x, ls[i]? = some x → ∀ j, j < k → (rowE E ls)[i * k + j]? = (E.enc x)[j]? := by
  induction ls with
  | nil => intro i x hi; simp at hi
  | cons e r ih =>
    intro i x hi j hj
    show ((E.enc e).toList ++ rowE E r)[i * k + j]? = _
    cases i with
    | zero =>
      have hx : e = x := by simpa using hi
      rw [List.getElem?_append_left (by rw [Array.length_toList, E.size]; omega), Array.getElem?_toList, Nat.zero_mul, Nat.zero_add, hx]
    | succ i =>
      rw [List.getElem?_append_right (by rw [Array.length_toList, E.size, Nat.succ_mul]; omega), Array.length_toList, E.size, show (i + 1) * k + j - k = i * k + j by rw [Nat.succ_mul]; omega, ih i x (by simpa using hi) j hj]
theorem div_mod_lt {k j n : Nat} (hk : 0 < k) (h : j < n * k) : j / k < n ∧ j % k < k ∧ j = (j / k) * k + j % k := by
  refine ⟨Nat.div_lt_of_lt_mul (by rw [Nat.mul_comm]; exact h), Nat.mod_lt _ hk, ?_⟩
  rw [Nat.mul_comm]
  exact (Nat.div_add_mod j k).symm
/-- The cells of block g from o on are those of the row ls. -/
def RCellsE (g o : Nat) (ls : List α) (w : World) : Prop := g < w.heap.size ∧ ∀ i x, ls[i]? = some x → ∀ j, j < k → w.cell? ⟨g, o + (i * k + j), none⟩ = (E.enc x)[j]?
section
variable {E} {g o : Nat} {ls : List α} {w w' : World}
theorem RCellsE.lt (h : RCellsE E g o ls w) : g < w.heap.size := h.1
theorem RCellsE.of_eq (h : RCellsE E g o ls w) (e : w'.heap[g]? = w.heap[g]?) : RCellsE E g o ls w' := by
  refine ⟨?_, fun i x hi j hj => ?_⟩
  · have := h.1
    rcases Nat.lt_or_ge g w'.heap.size with k | k
    · exact k
    · rw [Array.getElem?_eq_none k, Array.getElem?_eq_getElem this] at e
      cases e
  · rw [World.cell?_of_block (w := w) e]
    exact h.2 i x hi j hj
theorem RCellsE.drop (h : RCellsE E g o ls w) (n : Nat) : RCellsE E g (o + n * k) (ls.drop n) w :=
  ⟨h.1, fun i x hi j hj => by
    rw [List.getElem?_drop] at hi
    have := h.2 (n + i) x hi j hj
    rw [Nat.add_mul] at this
    rw [← this]
    congr 2
    omega⟩
theorem RCellsE.take (h : RCellsE E g o ls w) (n : Nat) : RCellsE E g o (ls.take n) w :=
  ⟨h.1, fun i x hi j hj => by
    rw [List.getElem?_take] at hi
    split at hi
    · exact h.2 i x hi j hj
    · cases hi⟩
theorem RCellsE.row (h : RCellsE E g o ls w) (j : Nat) (u : Value) (hu : (rowE E ls)[j]? = some u) : w.cell? ⟨g, o + j, none⟩ = some u := by
  have hj : j < ls.length * k := by rw [← rowE_length E]; exact (List.getElem?_eq_some_iff.1 hu).1
  obtain ⟨h1, h2, h3⟩ := div_mod_lt E.pos hj
  have hx : ls[j / k]? = some ls[j / k] := List.getElem?_eq_getElem h1
  rw [h3, rowE_at E ls _ _ hx _ h2] at hu
  have := h.2 _ _ hx _ h2
  rw [hu, ← h3] at this
  exact this
/-- An element loaded. -/
theorem RCellsE.load (h : RCellsE E g o ls w) (hagg : ∀ w : World, (isAgg T).run Try.prog w = .ok true w) {i : Nat} {x : α} (hi : ls[i]? = some x) : (Instr.loadAt T (.pointer (some ⟨g, o + i * k, none⟩))).run Try.prog w = .ok (.agg (E.enc x)) w := by
  obtain ⟨f, z, hf, _, hs, _, _⟩ := E.facts
  simp only [Instr.loadAt, Instr.sureAddr, Sem.run_bind, Sem.run_pure, Result.andThen_ok]
  have hl : (loadCells ⟨g, o + i * k, none⟩ (E.enc x).toList.length).run Try.prog w = .ok (E.enc x).toList.toArray w :=
    run_loadCells_list (P := Try.prog) w ⟨g, o + i * k, none⟩ (E.enc x).toList (fun j v hv => by
      have hadd : (⟨g, o + i * k, none⟩ : Addr).add j = ⟨g, o + i * k + j, none⟩ := by unfold Addr.add; split <;> simp_all
      have hj : j < k := by
        have := (List.getElem?_eq_some_iff.1 hv).1
        rw [Array.length_toList, E.size] at this
        exact this
      rw [hadd, Nat.add_assoc, h.2 i x hi j hj]
      simpa using hv)
  rw [Array.length_toList, E.size] at hl
  simp only [Array.toArray_toList] at hl
  simp only [loadVar, Sem.run_bind, hagg w, sizeOf, typeInfo, hf, hs, hl, run_program, Result.andThen_ok, if_true, Sem.run_pure]
end
/-- v is a slice of ls. -/
def RSE (v : Value) (ls : List α) (w : World) : Prop := (v = .slice none 0 0 ∧ ls = []) ∨ (∃ g o c, v = .slice (some ⟨g, o, none⟩) ls.length c ∧ ls.length ≤ c ∧ (0 < ls.length → RCellsE E g o ls w)) ∨ ∃ a c, v = .slice (some a) 0 c ∧ ls = []
/-- v is a slice of ls, in a row that the call owns (from block B on). -/
def OwnE (B : Nat) (v : Value) (ls : List α) (w : World) : Prop := w.ownsRow B T k v ls.length (rowE E ls)
section
variable {E} {v : Value} {ls : List α} {w w' : World} {B : Nat}
theorem RSE.below (h : RSE E v ls w) (hb : Below w.heap.size w w') : RSE E v ls w' := by
  rcases h with h | ⟨g, o, c, e, hc, sc⟩ | h
  · exact .inl h
  · exact .inr (.inl ⟨g, o, c, e, hc, fun hn => (sc hn).of_eq (hb.block _ (sc hn).lt)⟩)
  · exact .inr (.inr h)
theorem RSE.len (h : RSE E v ls w) : ∃ a c, v = .slice a ls.length c ∧ ls.length ≤ c := by
  rcases h with ⟨rfl, rfl⟩ | ⟨g, o, c, e, hc, sc⟩ | ⟨a, c, rfl, rfl⟩
  · exact ⟨none, 0, rfl, Nat.le_refl _⟩
  · exact ⟨_, c, e, hc⟩
  · exact ⟨_, c, rfl, Nat.zero_le _⟩
theorem RSE.at {a : Option Addr} {n c : Nat} (h : RSE E (.slice a n c) ls w) (hn : 0 < ls.length) : ∃ g o, a = some ⟨g, o, none⟩ ∧ RCellsE E g o ls w := by
  rcases h with ⟨_, rfl⟩ | ⟨g, o, c', e, _, sc⟩ | ⟨_, _, _, rfl⟩
  rotate_right
  · exact absurd hn (by simp)
  · exact absurd hn (by simp)
  · injection e with e1 e2 e3
    exact ⟨g, o, e1, sc hn⟩
theorem RSE.nil (w : World) : RSE E (.slice none 0 0) [] w := .inl ⟨rfl, rfl⟩
theorem ov_rce {g o : Nat} (h : RCellsE E g o ls w) : ∀ w', (∃ u, w' = ov w u) → RCellsE E g o ls w' := by
  rintro w' ⟨u, rfl⟩
  exact h.of_eq ((ov_below w u).block _ h.lt)
theorem OwnE.below (h : OwnE E B v ls w) (hb : Below w.heap.size w w') : OwnE E B v ls w' :=
  World.ownsRow.kept (row := none) h ⟨hb.os, hb.tape, hb.output, hb.size, fun k hk _ => hb.block k hk⟩ (Classical.em _)
theorem OwnE.mono {B' : Nat} (h : OwnE E B v ls w) (hb : B' ≤ B) : OwnE E B' v ls w := World.ownsRow.mono h hb
theorem OwnE.nil (B : Nat) (w : World) : OwnE E B (.slice none 0 0) [] w := World.ownsRow_nil w B _ _
theorem OwnE.rs (h : OwnE E B v ls w) : RSE E v ls w := by
  obtain ⟨h1, h2⟩ := h
  rcases h2 with ⟨rfl, h0⟩ | ⟨g, cap, cur, rfl, hb, hg, hn, hm, hs, ht⟩
  · exact .inl ⟨rfl, List.eq_nil_of_length_eq_zero h0⟩
  · refine .inr (.inl ⟨g, 0, cap, rfl, hn, fun _ => ⟨(Array.getElem?_eq_some_iff.1 hg).1, fun i x hi j hj => ?_⟩⟩)
    have hil : i < ls.length := (List.getElem?_eq_some_iff.1 hi).1
    have hlt : i * k + j < ls.length * k := by
      have := Nat.mul_le_mul_right k (Nat.succ_le_of_lt hil)
      rw [Nat.succ_mul] at this
      omega
    rw [← rowE_at E ls i x hi j hj, Nat.zero_add, cell_of_row w g _ cur _ (0, 0) hg, ← ht, List.getElem?_take_of_lt hlt, Array.getElem?_toList]
theorem OwnE.len (h : OwnE E B v ls w) : ∃ a c, v = .slice a ls.length c ∧ ls.length ≤ c := h.rs.len
theorem OwnE.chg {b : Nat} (h : OwnE E B v ls w) (hc : Chg b w w') (hb : b < B) : OwnE E B v ls w' := by
  refine World.ownsRow.kept (row := some b) h ⟨hc.os, hc.tape, hc.output, hc.size, fun k hk hne => hc.block k hk (fun e => hne (by rw [e]))⟩ ?_
  cases hv : v.ownBlock with
  | none => exact .inl rfl
  | some k =>
    right
    intro e
    injection e with e
    have := World.ownsRow.lt h k hv
    omega
end
section
variable {E} {ops : Array Oper} {rest : List Oper} {o : Oper} {a : Act} {w : World} {Q : Exit → Act → World → Prop}
end
/-! ### Literals of one element; blocks known whole as rows -/
section
variable {E}
variable {ops : Array Oper} {rest : List Oper} {o : Oper} {a : Act} {w : World} {Q : Exit → Act → World → Prop}
theorem RSE.one {b : Nat} {x : α} {w : World} (h : AtB T w b (E.enc x)) : RSE E (.slice (some ⟨b, 0, none⟩) 1 1) [x] w :=
  .inr (.inl ⟨b, 0, 1, rfl, Nat.le_refl _, fun _ => ⟨h.lt, fun i y hi j hj => by
    cases i with
    | zero =>
      have hx : x = y := by simpa using hi
      rw [Nat.zero_mul, Nat.zero_add, Nat.zero_add, (cells_of_block h).1, hx]
    | succ i => simp at hi⟩⟩)
/-- The block b is the row ls. -/
def RowAt (E : Elt α k T ST) (w : World) (b : Nat) (ls : List α) : Prop := AtB T w b (rowE E ls).toArray
theorem RowAt.of_eq {w w' : World} {b : Nat} {ls : List α} (h : RowAt E w b ls) (e : w'.heap[b]? = w.heap[b]?) : RowAt E w' b ls := AtB.of_eq h e
theorem RowAt.lt {w : World} {b : Nat} {ls : List α} (h : RowAt E w b ls) : b < w.heap.size := AtB.lt h
theorem RowAt.cells {w : World} {b : Nat} {ls : List α} (h : RowAt E w b ls) : RCellsE E b 0 ls w := by
  refine ⟨h.lt, fun i x hi j hj => ?_⟩
  rw [Nat.zero_add, (cells_of_block h).1, List.getElem?_toArray]
  exact rowE_at E ls i x hi j hj
theorem RowAt.rs {w : World} {b : Nat} {ls : List α} (h : RowAt E w b ls) : RSE E (.slice (some ⟨b, 0, none⟩) ls.length ls.length) ls w :=
  .inr (.inl ⟨b, 0, ls.length, rfl, Nat.le_refl _, fun _ => h.cells⟩)
theorem rowE_replicate (n : Nat) (x : α) : ∀ j, (rowE E (List.replicate n x))[j]? = if j < n * k then (E.enc x)[j % k]? else none := by
  intro j
  by_cases h : j < n * k
  · rw [if_pos h]
    obtain ⟨h1, h2, h3⟩ := div_mod_lt E.pos h
    have := rowE_at E (List.replicate n x) (j / k) x (by rw [List.getElem?_replicate, if_pos h1]) (j % k) h2
    rw [← h3] at this
    exact this
  · rw [if_neg h, List.getElem?_eq_none (by rw [rowE_length, List.length_replicate]; omega)]
/-- A row of zero elements made. -/
theorem owp_makeE {K : Act → World → Prop} (p q : Operand) (ho : o.op = .makeSlice ST p q) (n : Nat) (hp : a.eval p = .int .i64 n) (hq : a.eval q = .int .i64 n) (hn : n ≤ 100000000) (hsm : n * k ≤ 16777216)
    (h : ∀ b w', w.heap.size ≤ b → b ≤ w.heap.size → RowAt E w' b (List.replicate n E.zero) → Below b w w' → w'.heap.size = b + 1 → K (a.put o.dst (.slice (some ⟨b, 0, none⟩) n n)) w') : o.wp Try.prog a w K Q := by
    obtain ⟨i, z, hi, hz, hsz, hby, hzc⟩ := E.facts
    have hr := run_makeSlice (P := Try.prog) w ST T i z E.und hi hz .i64 .i64 n n (by omega) (Int.le_refl _) (by rw [hsz]; simpa using hsm) (by
      have hm := Nat.mul_le_mul E.small hn
      rw [hby]
      have : ((E.bytes * n : Nat) : Int) ≤ ((1000 * 100000000 : Nat) : Int) := by omega
      rw [Int.natCast_mul] at this
      omega) (by omega)
    unfold Oper.wp execOp
    simp only [ho, hp, hq, hr, Sem.run_bind, Sem.run_pure, Result.andThen_ok]
    refine (h _ _ (Nat.le_refl _) (Nat.le_refl _) ?_ ((Below.refl _ _).alloc (Nat.le_refl _) _) (World.size_alloc _ _))
    unfold RowAt AtB
    rw [heap_get_alloc, if_pos rfl]
    congr 2
    apply Array.ext_getElem?
    intro j
    have hR : (rowE E (List.replicate n E.zero)).toArray[j]? = if j < n * k then (E.enc E.zero)[j % k]? else none := by rw [List.getElem?_toArray, rowE_replicate]
    rw [hR, hzc, hsz, Int.toNat_natCast]
    unfold madeCells
    by_cases hj : j < n * k
    · have hm : j % k < (E.enc E.zero).size := by rw [E.size]; exact Nat.mod_lt _ E.pos
      rw [if_pos hj, Array.getElem?_map, Array.getElem?_eq_getElem (by simpa using hj), Array.getElem?_eq_getElem hm]
      simp [E.size, getElem!_pos, hm, Nat.mod_lt _ E.pos]
    · rw [if_neg hj, Array.getElem?_eq_none (by simp; omega)]
end
end
end Go.Proofs.Ytppccnjckiedlaa
/- Rows of pixels; images; contract of the closure of Image of package raster. -/
namespace Go.Proofs.Ytppccnjckiedlaa
open Go.RowKit Go.Shelf Pl
set_option linter.unusedVariables false
set_option linter.unusedSimpArgs false
set_option maxRecDepth 20000

def pxE : Elt Px 4 37 66 where
  enc := pxA
  bytes := 4
  zero := Px.zero
  size := fun _ => rfl
  one := fun x u hu => by
    have : u ∈ [Value.int .u8 x.r, .int .u8 x.g, .int .u8 x.b, .int .u8 x.a] := hu
    simp at this
    rcases this with rfl | rfl | rfl | rfl <;> rfl
  pos := by omega
  small := by omega
  und := Try.underlying66
  info := by kernel_rfl
  zer := by kernel_rfl
theorem rowE_set (ls : List Px) : ∀ (i : Nat) (p : Px), i < ls.length → ((((rowE pxE ls).set (i * 4) (.int .u8 p.r)).set (i * 4 + 1) (.int .u8 p.g)).set (i * 4 + 2) (.int .u8 p.b)).set (i * 4 + 3) (.int .u8 p.a) = rowE pxE (ls.set i p) := by
  induction ls with
  | nil => intro i p h; exact absurd h (Nat.not_lt_zero _)
  | cons q r ih =>
    intro i p h
    cases i with
    | zero => rfl
    | succ i =>
      have e : ∀ j, (i + 1) * 4 + j = (i * 4 + j) + 4 := fun j => by omega
      have := ih i p (by simpa using h)
      show ((((((Value.int .u8 q.r :: .int .u8 q.g :: .int .u8 q.b :: .int .u8 q.a :: rowE pxE r).set ((i + 1) * 4) _).set ((i + 1) * 4 + 1) _).set ((i + 1) * 4 + 2) _).set ((i + 1) * 4 + 3) _)) = Value.int .u8 q.r :: .int .u8 q.g :: .int .u8 q.b :: .int .u8 q.a :: rowE pxE (r.set i p)
      rw [show (i + 1) * 4 = (i * 4) + 4 by omega, show i * 4 + 4 + 1 = i * 4 + 1 + 4 by omega, show i * 4 + 4 + 2 = i * 4 + 2 + 4 by omega, show i * 4 + 4 + 3 = i * 4 + 3 + 4 by omega]
      simp only [List.set_cons_succ]
      rw [this]
theorem RowAt.set4 {w : World} {b i : Nat} {ls : List Px} (h : RowAt pxE w b ls) (hi : i < ls.length) (p : Px) :
    RowAt pxE ((((w.setCell ⟨b, i * 4, none⟩ (.int .u8 p.r)).setCell ⟨b, i * 4 + 1, none⟩ (.int .u8 p.g)).setCell ⟨b, i * 4 + 2, none⟩ (.int .u8 p.b)).setCell ⟨b, i * 4 + 3, none⟩ (.int .u8 p.a)) b (ls.set i p) := by
  unfold RowAt AtB
  rw [← rowE_set ls i p hi]
  have := heap_setCell_same _ b (i * 4 + 3) _ _ (.int .u8 p.a) (heap_setCell_same _ b (i * 4 + 2) _ _ (.int .u8 p.b) (heap_setCell_same _ b (i * 4 + 1) _ _ (.int .u8 p.g) (heap_setCell_same _ b (i * 4) _ _ (.int .u8 p.r) h)))
  simpa only [List.setIfInBounds_toArray] using this
theorem run_store_row {w : World} {b i : Nat} {ls : List Px} (h : RowAt pxE w b ls) (hi : i < ls.length) (p : Px) : (Instr.storeAt 37 (.pointer (some ⟨b, i * 4, none⟩)) (Px.v p)).run Try.prog w =
    .ok () ((((w.setCell ⟨b, i * 4, none⟩ (.int .u8 p.r)).setCell ⟨b, i * 4 + 1, none⟩ (.int .u8 p.g)).setCell ⟨b, i * 4 + 2, none⟩ (.int .u8 p.b)).setCell ⟨b, i * 4 + 3, none⟩ (.int .u8 p.a)) := by
  obtain ⟨q, hq⟩ : ∃ q, ls[i]? = some q := ⟨_, List.getElem?_eq_getElem hi⟩
  have hc := h.cells.2 i q hq
  have c0 : w.cell? ⟨b, i * 4, none⟩ = some (.int .u8 q.r) := by have := hc 0 (by omega); rw [Nat.zero_add, Nat.add_zero] at this; exact this
  have c1 : w.cell? ⟨b, i * 4 + 1, none⟩ = some (.int .u8 q.g) := by have := hc 1 (by omega); rw [Nat.zero_add] at this; exact this
  have c2 : w.cell? ⟨b, i * 4 + 2, none⟩ = some (.int .u8 q.b) := by have := hc 2 (by omega); rw [Nat.zero_add] at this; exact this
  have c3 : w.cell? ⟨b, i * 4 + 3, none⟩ = some (.int .u8 q.a) := by have := hc 3 (by omega); rw [Nat.zero_add] at this; exact this
  have hf := fun j => AtB.frozen h j
  simp [go_sem, c0, c1, c2, c3, hf, Px.v]
theorem wpList_storeRow {ops : Array Oper} {rest : List Oper} {o : Oper} {a : Act} {w : World} {Q : Exit → Act → World → Prop} (hg : o.guard = none) (x y : Operand) (ho : o.op = .store 37 x y) (b j : Nat) (hx : a.eval x = .pointer (some ⟨b, j, none⟩)) (q : Px) (hy : a.eval y = Px.v q) {ls : List Px} (ht : RowAt pxE w b ls) (i : Nat) (hi : i < ls.length) (hj : j = i * 4)
    (h : ∀ w', RowAt pxE w' b (ls.set i q) → Chg b w w' → w'.heap.size = w.heap.size → wpList Try.prog ops Q rest (a.put o.dst undef) w') : wpList Try.prog ops Q (o :: rest) a w := by
  subst hj
  refine wpList_storeAny hg x y ho _ ?_ (h _ (ht.set4 hi q) (((((Chg.refl b w).setCell _).setCell _).setCell _).setCell _) (by simp only [World.size_setCell]))
  rw [hx, hy]
  exact run_store_row ht hi q
/-! ### The closure of Image -/
def idxI (c : Rc) (x y : Int) : Int := (y - c.y0) * (c.x1 - c.x0) + x - c.x0
def imgF (c : Rc) (s : List Px) (x y : Int) (p : Px) : List Px × Px := (if hasR c x y = true then s.set (idxI c x y).toNat p else s, p)
def imgC (c : Rc) (u : Value) : Array Value := #[.int .i64 c.x0, .int .i64 c.y0, .int .i64 c.x1, .int .i64 c.y1, u]
/-- A rectangle that fits. -/
structure Fits (c : Rc) : Prop where
  h1 : c.x0 < c.x1
  h2 : c.y0 < c.y1
  h3 : -65536 ≤ c.x0
  h4 : -65536 ≤ c.y0
  h5 : c.x1 ≤ 65536
  h6 : c.y1 ≤ 65536
  h7 : c.x1 - c.x0 ≤ 256
  h8 : c.y1 - c.y0 ≤ 256
theorem fitsE_zero {c : Rc} (h : fitsE c = 0) : Fits c := by
  unfold fitsE at h
  split at h
  · rename_i hv
    obtain ⟨⟨a1, a2⟩, a3, a4, a5, a6⟩ := (validR_iff c).1 hv
    split at h
    · cases h
    · exact ⟨a1, a2, a3, a4, a5, a6, by omega, by omega⟩
  · cases h
theorem Fits.valid {c : Rc} (h : Fits c) : validR c = true := (validR_iff c).2 ⟨⟨h.h1, h.h2⟩, h.h3, h.h4, h.h5, h.h6⟩
def areaN (c : Rc) : Nat := ((c.x1 - c.x0) * (c.y1 - c.y0)).toNat
theorem idxI_bd {c : Rc} (hf : Fits c) {x y : Int} (hh : hasR c x y = true) : 0 ≤ (y - c.y0) * (c.x1 - c.x0) ∧ (y - c.y0) * (c.x1 - c.x0) ≤ 65536 ∧ 0 ≤ idxI c x y ∧ (idxI c x y).toNat < areaN c := by
  have hh := of_decide_eq_true hh
  obtain ⟨a1, a2, a3, a4, a5, a6, a7, a8⟩ := hf
  unfold idxI areaN
  obtain ⟨W, hW⟩ : ∃ W : Nat, c.x1 - c.x0 = W := ⟨(c.x1 - c.x0).toNat, by omega⟩
  obtain ⟨Y, hY⟩ : ∃ Y : Nat, y - c.y0 = Y := ⟨(y - c.y0).toNat, by omega⟩
  obtain ⟨H, hH⟩ : ∃ H : Nat, c.y1 - c.y0 = H := ⟨(c.y1 - c.y0).toNat, by omega⟩
  obtain ⟨X, hX⟩ : ∃ X : Nat, x - c.x0 = X := ⟨(x - c.x0).toNat, by omega⟩
  rw [hW, hY, hH]
  have e1 : ((Y : Int) * (W : Int)) + x - c.x0 = ((Y * W + X : Nat) : Int) := by rw [Int.natCast_add, Int.natCast_mul]; omega
  have e2 : ((W : Int) * (H : Int)) = ((W * H : Nat) : Int) := by rw [Int.natCast_mul]
  have e3 : ((Y : Int) * (W : Int)) = ((Y * W : Nat) : Int) := by rw [Int.natCast_mul]
  rw [e1, e2, e3]
  have m1 : Y * W ≤ 256 * 256 := Nat.mul_le_mul (by omega) (by omega)
  have m2 : (Y + 1) * W ≤ H * W := Nat.mul_le_mul_right W (by omega)
  rw [Nat.succ_mul] at m2
  have m3 : W * H = H * W := Nat.mul_comm _ _
  omega
theorem rcA_x0 {w : World} {b : Nat} {c : Rc} (h : AtB 64 w b (rcA c)) : w.cell? ⟨b, 0, none⟩ = some (.int .i64 c.x0) := h.cell 0 rfl
theorem rcA_y0 {w : World} {b : Nat} {c : Rc} (h : AtB 64 w b (rcA c)) : w.cell? ⟨b, 1, none⟩ = some (.int .i64 c.y0) := h.cell 1 rfl
theorem rcA_x1 {w : World} {b : Nat} {c : Rc} (h : AtB 64 w b (rcA c)) : w.cell? ⟨b, 2, none⟩ = some (.int .i64 c.x1) := h.cell 2 rfl
theorem imgC_u {w : World} {b : Nat} {c : Rc} {u : Value} (h : AtB 68 w b (imgC c u)) : w.cell? ⟨b, 4, none⟩ = some u := h.cell 4 rfl
theorem run_load_slp {w : World} {b j : Nat} {v : Value} (h : w.cell? ⟨b, j, none⟩ = some v) : (Instr.loadAt 66 (.pointer (some ⟨b, j, none⟩))).run Try.prog w = .ok v w := by
  simp [go_sem, h]
set_option maxHeartbeats 1000000 in
theorem P_Image1 (c : Rc) (hf : Fits c) (s : List Px) (hs : s.length = areaN c) (x y : Int) (p : Px) (bc bm cb : Nat) (w : World) (r0 : AtB 64 w bc (rcA c)) (m0 : AtB 68 w bm (imgC c (.slice (some ⟨cb, 0, none⟩) (areaN c) (areaN c)))) (row : RowAt pxE w cb s) (h1 : bc ≠ cb) (h2 : bm ≠ cb) :
    Calls Try.prog 80 #[.int .i64 x, .int .i64 y, Px.v p, .pointer (some ⟨bc, 0, none⟩), .pointer (some ⟨bm, 0, none⟩)] w fun e w' => e = .returned (Px.v (imgF c s x y p).2) ∧ (AtB 64 w' bc (rcA c) ∧ AtB 68 w' bm (imgC c (.slice (some ⟨cb, 0, none⟩) (areaN c) (areaN c))) ∧ RowAt pxE w' cb (imgF c s x y p).1) ∧ Chg cb w w' := by
  have B := Exc.refl cb w
  have hb1 := r0.lt
  have hb2 := m0.lt
  have hb3 := row.lt
  cases hh : hasR c x y with
  | true =>
    have e1 := Lib.hid (show imgF c s x y p = (s.set (idxI c x y).toNat p, p) from by unfold imgF; rw [hh]; rfl)
    obtain ⟨m1, m2, m3, m4⟩ := idxI_bd hf hh
    have hix : (idxI c x y).toNat < s.length := by rw [hs]; exact m4
    have hh2 := of_decide_eq_true hh
    obtain ⟨g1, g2, g3, g4⟩ := hh2
    obtain ⟨a1, a2, a3, a4, a5, a6, a7, a8⟩ := hf
    have hidx : (y - c.y0) * (c.x1 - c.x0) + x - c.x0 = idxI c x y := rfl
    have m5 : idxI c x y < (areaN c : Int) := by omega
    have m6 : (areaN c : Int) ≤ 65536 := by
      unfold areaN
      have := mul_bd (a := c.x1 - c.x0) (b := c.y1 - c.y0) (m := 256) (k := 256) (by omega) (by omega) (by omega) (by omega)
      omega
    go_enter Try.func80, Try.ntmps80
    go_wp2_with (first | (refine wpList_storePx rfl _ _ rfl _ rfl (_) rfl q2 ?_; clear q2; intro wn ht hcn hzn; have hsz := B.size; replace hzn := Nat.le_of_eq hzn.symm; replace B := Exc.store B hcn (by omega); (try replace r0 := r0.of_eq (hcn.block _ r0.lt (by omega))); (try replace m0 := m0.of_eq (hcn.block _ m0.lt (by omega))); (try replace q1 := q1.of_eq (hcn.block _ q1.lt (by omega))); (try replace row := row.of_eq (hcn.block _ row.lt (by omega))); have q2 := ht; clear ht; simp only [Act.put, putS]) | (refine wpList_storeRow rfl _ _ rfl _ _ rfl _ rfl row (idxI c x y).toNat hix (by first | rfl | omega) ?_; clear row; intro wn ht hcn hzn; have hsz := B.size; replace hzn := Nat.le_of_eq hzn.symm; replace B := Exc.chg B hcn; (try replace r0 := r0.of_eq (hcn.block _ r0.lt (by omega))); (try replace m0 := m0.of_eq (hcn.block _ m0.lt (by omega))); (try replace q1 := q1.of_eq (hcn.block _ q1.lt (by omega))); (try replace q2 := q2.of_eq (hcn.block _ q2.lt (by omega))); have row := ht; clear ht; simp only [Act.put, putS]) | (refine wpList_loadPx rfl _ rfl _ rfl q1 ?_; simp only [Act.put, putS]) | (refine wpList_loadAny (t := 66) rfl _ rfl _ _ _ rfl (run_load_slp (imgC_u m0)) (by rfl) ?_; simp only [Act.put, putS]) | (refine wpList_loadAny (t := 3) rfl _ rfl _ _ _ rfl (run_load_int (rcA_x0 r0)) (by first | rfl | omega) ?_; simp only [Act.put, putS]) | (refine wpList_loadAny (t := 3) rfl _ rfl _ _ _ rfl (run_load_int (rcA_y0 r0)) (by first | rfl | omega) ?_; simp only [Act.put, putS]) | (refine wpList_loadAny (t := 3) rfl _ rfl _ _ _ rfl (run_load_int (rcA_x1 r0)) (by first | rfl | omega) ?_; simp only [Act.put, putS]) | (go_at_call 39; refine (P_Has c x y _).mono ?_; rintro e wn ⟨rfl, hbn⟩; have hsz := B.size; have hzn := hbn.size; replace B := B.trans (hbn.mono B.size); (try first | replace r0 := r0.of_eq (hbn.block _ r0.lt) | replace r0 := r0.below hbn); (try first | replace m0 := m0.of_eq (hbn.block _ m0.lt) | replace m0 := m0.below hbn); (try first | replace q1 := q1.of_eq (hbn.block _ q1.lt) | replace q1 := q1.below hbn); (try first | replace q2 := q2.of_eq (hbn.block _ q2.lt) | replace q2 := q2.below hbn); (try first | replace row := row.of_eq (hbn.block _ row.lt) | replace row := row.below hbn)) | (refine wpList_loadAny (t := 64) rfl _ rfl _ _ _ rfl (run_load_B r0 Try.isAgg64 (by kernel_rfl)) (by rfl) ?_; simp only [Act.put, putS]) | (have _ := q1; refine wpList_allocPx' rfl rfl ?_; intro b_q2 wn hle hge ht hbn hzn; have hsz := B.size; replace B := B.trans (hbn.mono (by omega)); have hln := Nat.lt_of_lt_of_eq (Nat.lt_succ_self _) hzn.symm; clear hzn; (try first | (have hlt := r0.lt; replace r0 := r0.of_eq (hbn.block _ (by omega))) | replace r0 := r0.below (hbn.mono hle)); (try first | (have hlt := m0.lt; replace m0 := m0.of_eq (hbn.block _ (by omega))) | replace m0 := m0.below (hbn.mono hle)); (try first | (have hlt := q1.lt; replace q1 := q1.of_eq (hbn.block _ (by omega))) | replace q1 := q1.below (hbn.mono hle)); (try first | (have hlt := q2.lt; replace q2 := q2.of_eq (hbn.block _ (by omega))) | replace q2 := q2.below (hbn.mono hle)); (try first | (have hlt := row.lt; replace row := row.of_eq (hbn.block _ (by omega))) | replace row := row.below (hbn.mono hle)); have q2 := ht; clear ht; simp only [Act.put, putS]) | (refine wpList_boxPx' rfl _ rfl _ rfl ?_; intro b_q1 wn hle hge ht hbn hzn; have hsz := B.size; replace B := B.trans (hbn.mono (by omega)); have hln := Nat.lt_of_lt_of_eq (Nat.lt_succ_self _) hzn.symm; clear hzn; (try first | (have hlt := r0.lt; replace r0 := r0.of_eq (hbn.block _ (by omega))) | replace r0 := r0.below (hbn.mono hle)); (try first | (have hlt := m0.lt; replace m0 := m0.of_eq (hbn.block _ (by omega))) | replace m0 := m0.below (hbn.mono hle)); (try first | (have hlt := q1.lt; replace q1 := q1.of_eq (hbn.block _ (by omega))) | replace q1 := q1.below (hbn.mono hle)); (try first | (have hlt := q2.lt; replace q2 := q2.of_eq (hbn.block _ (by omega))) | replace q2 := q2.below (hbn.mono hle)); (try first | (have hlt := row.lt; replace row := row.of_eq (hbn.block _ (by omega))) | replace row := row.below (hbn.mono hle)); have q1 := ht; clear ht; simp only [Act.put, putS]) | fail)
    refine bodyPost_ret (results_px rfl _ _ (b_q2) rfl q2) rfl ?_
    exact ⟨by rw [e1.out], by rw [e1.out]; exact ⟨r0, m0, row⟩, B.toChg⟩
  | false =>
    have e1 := Lib.hid (show imgF c s x y p = (s, p) from by unfold imgF; rw [hh]; rfl)
    go_enter Try.func80, Try.ntmps80
    go_wp2_with (first | (refine wpList_storePx rfl _ _ rfl _ rfl (_) rfl q2 ?_; clear q2; intro wn ht hcn hzn; have hsz := B.size; replace hzn := Nat.le_of_eq hzn.symm; replace B := Exc.store B hcn (by omega); (try replace r0 := r0.of_eq (hcn.block _ r0.lt (by omega))); (try replace m0 := m0.of_eq (hcn.block _ m0.lt (by omega))); (try replace q1 := q1.of_eq (hcn.block _ q1.lt (by omega))); (try replace row := row.of_eq (hcn.block _ row.lt (by omega))); have q2 := ht; clear ht; simp only [Act.put, putS]) | (refine wpList_loadPx rfl _ rfl _ rfl q1 ?_; simp only [Act.put, putS]) | (go_at_call 39; refine (P_Has c x y _).mono ?_; rintro e wn ⟨rfl, hbn⟩; have hsz := B.size; have hzn := hbn.size; replace B := B.trans (hbn.mono B.size); (try first | replace r0 := r0.of_eq (hbn.block _ r0.lt) | replace r0 := r0.below hbn); (try first | replace m0 := m0.of_eq (hbn.block _ m0.lt) | replace m0 := m0.below hbn); (try first | replace q1 := q1.of_eq (hbn.block _ q1.lt) | replace q1 := q1.below hbn); (try first | replace q2 := q2.of_eq (hbn.block _ q2.lt) | replace q2 := q2.below hbn); (try first | replace row := row.of_eq (hbn.block _ row.lt) | replace row := row.below hbn)) | (refine wpList_loadAny (t := 64) rfl _ rfl _ _ _ rfl (run_load_B r0 Try.isAgg64 (by kernel_rfl)) (by rfl) ?_; simp only [Act.put, putS]) | (have _ := q1; refine wpList_allocPx' rfl rfl ?_; intro b_q2 wn hle hge ht hbn hzn; have hsz := B.size; replace B := B.trans (hbn.mono (by omega)); have hln := Nat.lt_of_lt_of_eq (Nat.lt_succ_self _) hzn.symm; clear hzn; (try first | (have hlt := r0.lt; replace r0 := r0.of_eq (hbn.block _ (by omega))) | replace r0 := r0.below (hbn.mono hle)); (try first | (have hlt := m0.lt; replace m0 := m0.of_eq (hbn.block _ (by omega))) | replace m0 := m0.below (hbn.mono hle)); (try first | (have hlt := q1.lt; replace q1 := q1.of_eq (hbn.block _ (by omega))) | replace q1 := q1.below (hbn.mono hle)); (try first | (have hlt := q2.lt; replace q2 := q2.of_eq (hbn.block _ (by omega))) | replace q2 := q2.below (hbn.mono hle)); (try first | (have hlt := row.lt; replace row := row.of_eq (hbn.block _ (by omega))) | replace row := row.below (hbn.mono hle)); have q2 := ht; clear ht; simp only [Act.put, putS]) | (refine wpList_boxPx' rfl _ rfl _ rfl ?_; intro b_q1 wn hle hge ht hbn hzn; have hsz := B.size; replace B := B.trans (hbn.mono (by omega)); have hln := Nat.lt_of_lt_of_eq (Nat.lt_succ_self _) hzn.symm; clear hzn; (try first | (have hlt := r0.lt; replace r0 := r0.of_eq (hbn.block _ (by omega))) | replace r0 := r0.below (hbn.mono hle)); (try first | (have hlt := m0.lt; replace m0 := m0.of_eq (hbn.block _ (by omega))) | replace m0 := m0.below (hbn.mono hle)); (try first | (have hlt := q1.lt; replace q1 := q1.of_eq (hbn.block _ (by omega))) | replace q1 := q1.below (hbn.mono hle)); (try first | (have hlt := q2.lt; replace q2 := q2.of_eq (hbn.block _ (by omega))) | replace q2 := q2.below (hbn.mono hle)); (try first | (have hlt := row.lt; replace row := row.of_eq (hbn.block _ (by omega))) | replace row := row.below (hbn.mono hle)); have q1 := ht; clear ht; simp only [Act.put, putS]) | fail)
    refine bodyPost_ret (results_px rfl _ _ (b_q2) rfl q2) rfl ?_
    exact ⟨by rw [e1.out], by rw [e1.out]; exact ⟨r0, m0, row⟩, B.toChg⟩
end Go.Proofs.Ytppccnjckiedlaa
/- Contract of Image of package raster. -/
namespace Go.Proofs.Ytppccnjckiedlaa
open Go.RowKit Go.Shelf Pl
set_option linter.unusedVariables false
set_option linter.unusedSimpArgs false
set_option maxRecDepth 20000

theorem imgF_len (c : Rc) (s : List Px) (x y : Int) (p : Px) : (imgF c s x y p).1.length = s.length := by
  unfold imgF
  show (if _ then _ else _ : List Px).length = _
  split
  · exact List.length_set
  · rfl
theorem imgF_ok (c : Rc) (s : List Px) (x y : Int) (p : Px) (h : p.ok) : (imgF c s x y p).2.ok := h
/-- The pixels that Image of package raster makes. -/
def imgPL (c : Rc) (ks : List TA) : List Px := (mapK (imgF c) ks (List.replicate (areaN c) Px.zero) ks.length).1
theorem run_load_rc {w : World} {b : Nat} {c : Rc} (h : AtB 64 w b (rcA c)) : (Instr.loadAt 64 (.pointer (some ⟨b, 0, none⟩))).run Try.prog w = .ok (.agg #[.int .i64 c.x0, .int .i64 c.y0, .int .i64 c.x1, .int .i64 c.y1]) w :=
  run_load_B h Try.isAgg64 (by kernel_rfl)
theorem run_load_img {w : World} {b : Nat} {c : Rc} {u : Value} (h : AtB 68 w b (imgC c u)) : (Instr.loadAt 68 (.pointer (some ⟨b, 0, none⟩))).run Try.prog w = .ok (.agg #[.int .i64 c.x0, .int .i64 c.y0, .int .i64 c.x1, .int .i64 c.y1, u]) w :=
  run_load_B h Try.isAgg68 (by kernel_rfl)
theorem run_alloc_Im (w : World) (o : Oper) (ho : o.op = .alloc 68) (ev : Operand → Value) : (execOp ev o).run Try.prog w = .ok (.value (.pointer (some ⟨w.heap.size, 0, none⟩))) (w.alloc (.cells (imgC Rc.zero (.slice none 0 0)) 68)) := by
  obtain ⟨d, p, t, ps, af, gd⟩ := o
  simp only at ho
  subst ho
  kernel_rfl
theorem area_N {c : Rc} (hf : Fits c) : areaR c = (areaN c : Int) := by
  obtain ⟨a1, a2, a3, a4, a5, a6, a7, a8⟩ := hf
  have hE : emptyR c = false := by unfold emptyR; exact decide_eq_false (by omega)
  have hm := mul_bd (a := c.x1 - c.x0) (b := c.y1 - c.y0) (m := 256) (k := 256) (by omega) (by omega) (by omega) (by omega)
  unfold areaR areaN
  rw [hE]
  show (c.x1 - c.x0) * (c.y1 - c.y0) = _
  omega
theorem area_bd {c : Rc} (hf : Fits c) : 1 ≤ areaN c ∧ areaN c ≤ 65536 := by
  obtain ⟨a1, a2, a3, a4, a5, a6, a7, a8⟩ := hf
  unfold areaN
  have hm := mul_bd (a := c.x1 - c.x0) (b := c.y1 - c.y0) (m := 256) (k := 256) (by omega) (by omega) (by omega) (by omega)
  have hp : 0 < (c.x1 - c.x0) * (c.y1 - c.y0) := Int.mul_pos (by omega) (by omega)
  omega
set_option maxHeartbeats 2000000 in
theorem P_Image_ok (v : Value) (ls : List TA) (c : Rc) (w : World) (h : RS v ls w) (tk : TokL ls) (hn : ls.length ≤ maxLen) (hE : fitsE c = 0) : Calls Try.prog 33 #[.agg #[v], Rc.v c] w fun e w' => ∃ u, e = .returned (.tuple #[.agg (imgC c u), .int .i64 0]) ∧ RSE pxE u (imgPL c (fineL ls)) w' ∧ Below w.heap.size w w' := by
  have B := Below.refl w.heap.size w
  obtain ⟨a', c', hT⟩ := P_tiles v ls w h tk hn
  have HR0 := Lib.hid (hT w (Below.refl _ _)).2
  have HT := Lib.hid hT
  clear hT
  obtain ⟨a, cp, rfl, hc⟩ := h.len
  have TK := Lib.hid (fineL_tok tk)
  have HP := Lib.hid (fine_pos ls)
  have hfl := fineL_length ls
  have FT := Lib.hid (fitsE_zero hE)
  obtain ⟨an1, an2⟩ := area_bd FT.out
  have AR : Hid (∀ w, Calls Try.prog 78 #[.agg #[.int .i64 c.x0, .int .i64 c.y0, .int .i64 c.x1, .int .i64 c.y1]] w fun e w' => e = .returned (.int .i64 (areaN c : Int)) ∧ Below w.heap.size w w') := Lib.hid fun w => by
    have := P_Area c w FT.out.valid
    rw [area_N FT.out] at this
    exact this
  have FE : Hid (∀ w, Calls Try.prog 77 #[.agg #[.int .i64 c.x0, .int .i64 c.y0, .int .i64 c.x1, .int .i64 c.y1]] w fun e w' => e = .returned (.int .i64 0) ∧ Below w.heap.size w w') := Lib.hid fun w => by
    have := P_fits c w
    rw [hE] at this
    exact this
  have eg := enters_of Try.func80 (by kernel_rfl) rfl
  clear h tk hE
  simp only [Rc.v_A]
  go_enter Try.func33, Try.ntmps33
  go_upto_region 4 with (first | (go_at_call 77; refine (FE.out _).mono ?_; rintro e wn ⟨rfl, hbn⟩; have hsz := B.size; have hzn := hbn.size; replace B := B.trans (hbn.mono B.size); (try first | replace r1 := r1.of_eq (hbn.block _ r1.lt) | replace r1 := r1.below hbn); (try first | replace r0 := r0.of_eq (hbn.block _ r0.lt) | replace r0 := r0.below hbn); (try first | replace m4 := m4.of_eq (hbn.block _ m4.lt) | replace m4 := m4.below hbn); (try first | replace m7 := m7.of_eq (hbn.block _ m7.lt) | replace m7 := m7.below hbn); (try first | replace row := row.of_eq (hbn.block _ row.lt) | replace row := row.below hbn)) | (refine wpList_loadAny (t := 64) rfl _ rfl _ _ _ rfl (run_load_rc r0) (by rfl) ?_; simp only [Act.put, putS]) | (have _ := r0; refine wpList_allocBk (t := 68) rfl _ (run_alloc_Im _ _ rfl) ?_; intro b_m4 wn hle hge ht hbn hzn; have hsz := B.size; replace B := B.trans (hbn.mono (by omega)); have hln := Nat.lt_of_lt_of_eq (Nat.lt_succ_self _) hzn.symm; clear hzn; (try first | (have hlt := r1.lt; replace r1 := r1.of_eq (hbn.block _ (by omega))) | replace r1 := r1.below (hbn.mono hle)); (try first | (have hlt := r0.lt; replace r0 := r0.of_eq (hbn.block _ (by omega))) | replace r0 := r0.below (hbn.mono hle)); (try first | (have hlt := m4.lt; replace m4 := m4.of_eq (hbn.block _ (by omega))) | replace m4 := m4.below (hbn.mono hle)); (try first | (have hlt := m7.lt; replace m7 := m7.of_eq (hbn.block _ (by omega))) | replace m7 := m7.below (hbn.mono hle)); (try first | (have hlt := row.lt; replace row := row.of_eq (hbn.block _ (by omega))) | replace row := row.below (hbn.mono hle)); have m4 := ht; clear ht; simp only [Act.put, putS]) | (have _ := r1; refine wpList_boxB (t := 64) rfl _ rfl _ rfl ?_; intro b_r0 wn hle hge ht hbn hzn; have hsz := B.size; replace B := B.trans (hbn.mono (by omega)); have hln := Nat.lt_of_lt_of_eq (Nat.lt_succ_self _) hzn.symm; clear hzn; (try first | (have hlt := r1.lt; replace r1 := r1.of_eq (hbn.block _ (by omega))) | replace r1 := r1.below (hbn.mono hle)); (try first | (have hlt := r0.lt; replace r0 := r0.of_eq (hbn.block _ (by omega))) | replace r0 := r0.below (hbn.mono hle)); (try first | (have hlt := m4.lt; replace m4 := m4.of_eq (hbn.block _ (by omega))) | replace m4 := m4.below (hbn.mono hle)); (try first | (have hlt := m7.lt; replace m7 := m7.of_eq (hbn.block _ (by omega))) | replace m7 := m7.below (hbn.mono hle)); (try first | (have hlt := row.lt; replace row := row.of_eq (hbn.block _ (by omega))) | replace row := row.below (hbn.mono hle)); have r0 := ht; clear ht; simp only [Act.put, putS]) | (refine wpList_boxB (t := 30) rfl _ rfl _ rfl ?_; intro b_r1 wn hle hge ht hbn hzn; have hsz := B.size; replace B := B.trans (hbn.mono (by omega)); have hln := Nat.lt_of_lt_of_eq (Nat.lt_succ_self _) hzn.symm; clear hzn; (try first | (have hlt := r1.lt; replace r1 := r1.of_eq (hbn.block _ (by omega))) | replace r1 := r1.below (hbn.mono hle)); (try first | (have hlt := r0.lt; replace r0 := r0.of_eq (hbn.block _ (by omega))) | replace r0 := r0.below (hbn.mono hle)); (try first | (have hlt := m4.lt; replace m4 := m4.of_eq (hbn.block _ (by omega))) | replace m4 := m4.below (hbn.mono hle)); (try first | (have hlt := m7.lt; replace m7 := m7.of_eq (hbn.block _ (by omega))) | replace m7 := m7.below (hbn.mono hle)); (try first | (have hlt := row.lt; replace row := row.of_eq (hbn.block _ (by omega))) | replace row := row.below (hbn.mono hle)); have r1 := ht; clear ht; simp only [Act.put, putS]) | fail)
  have q1 : w.heap.size ≤ b_r1 := by omega
  have q2 : b_r1 < b_r0 := by omega
  have q3 : b_r0 < b_m4 := by omega
  have q4 := m4.lt
  go_cut [7] from 14 to 18 (fun s wx => ∃ b_m7 b_row, s = .pointer (some ⟨b_m7, 0, none⟩) ∧ AtB 68 wx b_m7 (imgC c (.slice (some ⟨b_row, 0, none⟩) (areaN c) (areaN c))) ∧ RowAt pxE wx b_row (List.replicate (areaN c) Px.zero) ∧ Below w.heap.size w wx ∧ b_m4 < b_m7 ∧ b_m4 < b_row ∧ b_m7 ≠ b_row ∧ AtB 30 wx b_r1 #[.slice a ls.length cp] ∧ AtB 64 wx b_r0 (rcA c) ∧ AtB 68 wx b_m4 (imgC Rc.zero (.slice none 0 0)))
  case first =>
    try have r1B := r1
    try have r0B := r0
    try have m4B := m4
    try have m7B := m7
    try have rowB := row
    refine wp_region_X0 6 #[false, false, false, false, false, false, false] (by kernel_rfl) (by kernel_rfl) ?_
    intro wn hbn
    have hX := hbn
    have hsz := B.size
    have hzn := hbn.size
    replace B := B.trans (hbn.mono B.size)
    try first | replace r1 := r1.of_eq (hbn.block _ r1.lt) | replace r1 := r1.below hbn
    try first | replace r0 := r0.of_eq (hbn.block _ r0.lt) | replace r0 := r0.below hbn
    try first | replace m4 := m4.of_eq (hbn.block _ m4.lt) | replace m4 := m4.below hbn
    try first | replace m7 := m7.of_eq (hbn.block _ m7.lt) | replace m7 := m7.below hbn
    try first | replace row := row.of_eq (hbn.block _ row.lt) | replace row := row.below hbn
    simp only [List.length_cons, List.length_nil, Nat.reduceAdd]
    refine anyX_take 0 rfl (by kernel_rfl) ⟨_, ov_of hX⟩ ?_
    intro K hK
    try simp only [List.getElem_toArray, List.getElem_cons_zero, List.getElem_cons_succ]
    (first | (refine quiet_loadAny (t := 64) rfl _ _ _ rfl (fun w hw => run_load_rc (ov_B r0B w hw)) (by rfl) ?_; simp only [Act.put, putS]; go_big_quiet_on) | (go_big_quiet_op; go_big_quiet_on))
    simp only [Act.put, putS]
    refine anyX_take 1 rfl (by kernel_rfl) ⟨_, ov_of hX⟩ ?_
    intro K hK
    try simp only [List.getElem_toArray, List.getElem_cons_zero, List.getElem_cons_succ]
    (first | (refine quiet_loadAny (t := 64) rfl _ _ _ rfl (fun w hw => run_load_rc (ov_B r0B w hw)) (by rfl) ?_; simp only [Act.put, putS]; go_big_quiet_on) | (go_big_quiet_op; go_big_quiet_on))
    simp only [Act.put, putS]
    refine anyX_two 2 5 rfl rfl (by kernel_rfl) rfl rfl (fun K hK => ?_) (fun K hK => ?_)
    · skip
      try simp only [List.getElem_toArray, List.getElem_cons_zero, List.getElem_cons_succ]
      go_simp
      go_at_call 78
      refine (AR.out _).mono ?_
      rintro e wn ⟨rfl, hbn⟩
      have hsz := B.size
      have hzn := hbn.size
      have hsx := hX.size
      replace B := B.trans (hbn.mono B.size)
      replace hX := hX.trans (hbn.mono hX.size)
      try first | replace r1 := r1.of_eq (hbn.block _ r1.lt) | replace r1 := r1.below hbn
      try first | replace r0 := r0.of_eq (hbn.block _ r0.lt) | replace r0 := r0.below hbn
      try first | replace m4 := m4.of_eq (hbn.block _ m4.lt) | replace m4 := m4.below hbn
      try first | replace m7 := m7.of_eq (hbn.block _ m7.lt) | replace m7 := m7.below hbn
      try first | replace row := row.of_eq (hbn.block _ row.lt) | replace row := row.below hbn
      refine hK _ _ ⟨fun _ => ⟨_, ov_of hX⟩, ?_⟩
      clear hK K
      try simp only [List.getElem_toArray, List.getElem_cons_zero, List.getElem_cons_succ]
      simp only [Act.put, putS]
      refine anyX_two 3 5 rfl rfl (by kernel_rfl) rfl rfl (fun K hK => ?_) (fun K hK => ?_)
      · skip
        try simp only [List.getElem_toArray, List.getElem_cons_zero, List.getElem_cons_succ]
        refine owp_makeE (E := pxE) _ _ rfl (areaN c) (by rfl) (by rfl) (by omega) (by omega) ?_
        intro b_row wn hle hge ht hbn hzn
        have hsz := B.size
        have hsx := hX.size
        replace B := B.trans (hbn.mono (by omega))
        replace hX := hX.trans (hbn.mono (by omega))
        try first | (have hlt := r1.lt; replace r1 := r1.of_eq (hbn.block _ (by omega))) | replace r1 := r1.below (hbn.mono hle)
        try first | (have hlt := r0.lt; replace r0 := r0.of_eq (hbn.block _ (by omega))) | replace r0 := r0.below (hbn.mono hle)
        try first | (have hlt := m4.lt; replace m4 := m4.of_eq (hbn.block _ (by omega))) | replace m4 := m4.below (hbn.mono hle)
        try first | (have hlt := m7.lt; replace m7 := m7.of_eq (hbn.block _ (by omega))) | replace m7 := m7.below (hbn.mono hle)
        try first | (have hlt := row.lt; replace row := row.of_eq (hbn.block _ (by omega))) | replace row := row.below (hbn.mono hle)
        have row := ht
        clear ht
        refine hK _ _ ⟨fun _ => ⟨_, ov_of hX⟩, ?_⟩
        clear hK K
        try simp only [List.getElem_toArray, List.getElem_cons_zero, List.getElem_cons_succ]
        simp only [Act.put, putS]
        refine anyX_take 4 rfl (by kernel_rfl) ⟨_, ov_of hX⟩ ?_
        intro K hK
        try simp only [List.getElem_toArray, List.getElem_cons_zero, List.getElem_cons_succ]
        (first | (refine quiet_loadAny (t := 64) rfl _ _ _ rfl (fun w hw => run_load_rc (ov_B r0B w hw)) (by rfl) ?_; simp only [Act.put, putS]; go_big_quiet_on) | (go_big_quiet_op; go_big_quiet_on))
        simp only [Act.put, putS]
        refine anyX_next 5 rfl (by kernel_rfl) rfl (fun K hK => ?_)
        try simp only [List.getElem_toArray, List.getElem_cons_zero, List.getElem_cons_succ]
        refine owp_allocBk (t := 68) _ (run_alloc_Im _ _ rfl) ?_
        intro b_m7 wn hle hge ht hbn hzn
        have hsz := B.size
        have hsx := hX.size
        replace B := B.trans (hbn.mono (by omega))
        replace hX := hX.trans (hbn.mono (by omega))
        try first | (have hlt := r1.lt; replace r1 := r1.of_eq (hbn.block _ (by omega))) | replace r1 := r1.below (hbn.mono hle)
        try first | (have hlt := r0.lt; replace r0 := r0.of_eq (hbn.block _ (by omega))) | replace r0 := r0.below (hbn.mono hle)
        try first | (have hlt := m4.lt; replace m4 := m4.of_eq (hbn.block _ (by omega))) | replace m4 := m4.below (hbn.mono hle)
        try first | (have hlt := m7.lt; replace m7 := m7.of_eq (hbn.block _ (by omega))) | replace m7 := m7.below (hbn.mono hle)
        try first | (have hlt := row.lt; replace row := row.of_eq (hbn.block _ (by omega))) | replace row := row.below (hbn.mono hle)
        have m7 := ht
        clear ht
        refine hK _ _ ⟨fun _ => ⟨_, ov_of hX⟩, ?_⟩
        clear hK K
        try simp only [List.getElem_toArray, List.getElem_cons_zero, List.getElem_cons_succ]
        simp only [Act.put, putS]
        refine anyX_seq (by kernel_rfl) (by kernel_rfl) ?_
        simp only [List.drop_succ_cons, List.drop_zero]
        go_wp2_with (first | (refine wpList_storeB (t := 68) rfl _ _ rfl _ rfl _ rfl m7 (by kernel_rfl) rfl (by simp [imgC, Value.oneCell']) ?_; clear m7; intro wn ht hcn hzn; have hsz := B.size; replace hzn := Nat.le_of_eq hzn.symm; replace B := Chg.below B hcn (by omega) B.size; (try replace r1 := r1.of_eq (hcn.block _ r1.lt (by omega))); (try replace r0 := r0.of_eq (hcn.block _ r0.lt (by omega))); (try replace m4 := m4.of_eq (hcn.block _ m4.lt (by omega))); (try replace row := row.of_eq (hcn.block _ row.lt (by omega))); have m7 := ht; clear ht; simp only [Act.put, putS]) | fail)
        refine NoPan.normal ?_
        go_wp2_with fail
        go_meet
        exact ⟨b_m7, b_row, rfl, m7, row, B, by omega, by omega, by omega, r1, r0, m4⟩
      · skip
        try simp only [List.getElem_toArray, List.getElem_cons_zero, List.getElem_cons_succ]
        refine owp_allocBk (t := 68) _ (run_alloc_Im _ _ rfl) ?_
        intro b_m7 wn hle hge ht hbn hzn
        have hsz := B.size
        have hsx := hX.size
        replace B := B.trans (hbn.mono (by omega))
        replace hX := hX.trans (hbn.mono (by omega))
        try first | (have hlt := r1.lt; replace r1 := r1.of_eq (hbn.block _ (by omega))) | replace r1 := r1.below (hbn.mono hle)
        try first | (have hlt := r0.lt; replace r0 := r0.of_eq (hbn.block _ (by omega))) | replace r0 := r0.below (hbn.mono hle)
        try first | (have hlt := m4.lt; replace m4 := m4.of_eq (hbn.block _ (by omega))) | replace m4 := m4.below (hbn.mono hle)
        try first | (have hlt := m7.lt; replace m7 := m7.of_eq (hbn.block _ (by omega))) | replace m7 := m7.below (hbn.mono hle)
        try first | (have hlt := row.lt; replace row := row.of_eq (hbn.block _ (by omega))) | replace row := row.below (hbn.mono hle)
        have m7 := ht
        clear ht
        refine hK _ _ ⟨fun _ => ⟨_, ov_of hX⟩, ?_⟩
        clear hK K
        try simp only [List.getElem_toArray, List.getElem_cons_zero, List.getElem_cons_succ]
        simp only [Act.put, putS]
        refine anyX_next 3 rfl (by kernel_rfl) rfl (fun K hK => ?_)
        try simp only [List.getElem_toArray, List.getElem_cons_zero, List.getElem_cons_succ]
        refine owp_makeE (E := pxE) _ _ rfl (areaN c) (by rfl) (by rfl) (by omega) (by omega) ?_
        intro b_row wn hle hge ht hbn hzn
        have hsz := B.size
        have hsx := hX.size
        replace B := B.trans (hbn.mono (by omega))
        replace hX := hX.trans (hbn.mono (by omega))
        try first | (have hlt := r1.lt; replace r1 := r1.of_eq (hbn.block _ (by omega))) | replace r1 := r1.below (hbn.mono hle)
        try first | (have hlt := r0.lt; replace r0 := r0.of_eq (hbn.block _ (by omega))) | replace r0 := r0.below (hbn.mono hle)
        try first | (have hlt := m4.lt; replace m4 := m4.of_eq (hbn.block _ (by omega))) | replace m4 := m4.below (hbn.mono hle)
        try first | (have hlt := m7.lt; replace m7 := m7.of_eq (hbn.block _ (by omega))) | replace m7 := m7.below (hbn.mono hle)
        try first | (have hlt := row.lt; replace row := row.of_eq (hbn.block _ (by omega))) | replace row := row.below (hbn.mono hle)
        have row := ht
        clear ht
        refine hK _ _ ⟨fun _ => ⟨_, ov_of hX⟩, ?_⟩
        clear hK K
        try simp only [List.getElem_toArray, List.getElem_cons_zero, List.getElem_cons_succ]
        simp only [Act.put, putS]
        refine anyX_take 4 rfl (by kernel_rfl) ⟨_, ov_of hX⟩ ?_
        intro K hK
        try simp only [List.getElem_toArray, List.getElem_cons_zero, List.getElem_cons_succ]
        (first | (refine quiet_loadAny (t := 64) rfl _ _ _ rfl (fun w hw => run_load_rc (ov_B r0B w hw)) (by rfl) ?_; simp only [Act.put, putS]; go_big_quiet_on) | (go_big_quiet_op; go_big_quiet_on))
        simp only [Act.put, putS]
        refine anyX_seq (by kernel_rfl) (by kernel_rfl) ?_
        simp only [List.drop_succ_cons, List.drop_zero]
        go_wp2_with (first | (refine wpList_storeB (t := 68) rfl _ _ rfl _ rfl _ rfl m7 (by kernel_rfl) rfl (by simp [imgC, Value.oneCell']) ?_; clear m7; intro wn ht hcn hzn; have hsz := B.size; replace hzn := Nat.le_of_eq hzn.symm; replace B := Chg.below B hcn (by omega) B.size; (try replace r1 := r1.of_eq (hcn.block _ r1.lt (by omega))); (try replace r0 := r0.of_eq (hcn.block _ r0.lt (by omega))); (try replace m4 := m4.of_eq (hcn.block _ m4.lt (by omega))); (try replace row := row.of_eq (hcn.block _ row.lt (by omega))); have m7 := ht; clear ht; simp only [Act.put, putS]) | fail)
        refine NoPan.normal ?_
        go_wp2_with fail
        go_meet
        exact ⟨b_m7, b_row, rfl, m7, row, B, by omega, by omega, by omega, r1, r0, m4⟩
    · skip
      try simp only [List.getElem_toArray, List.getElem_cons_zero, List.getElem_cons_succ]
      refine owp_allocBk (t := 68) _ (run_alloc_Im _ _ rfl) ?_
      intro b_m7 wn hle hge ht hbn hzn
      have hsz := B.size
      have hsx := hX.size
      replace B := B.trans (hbn.mono (by omega))
      replace hX := hX.trans (hbn.mono (by omega))
      try first | (have hlt := r1.lt; replace r1 := r1.of_eq (hbn.block _ (by omega))) | replace r1 := r1.below (hbn.mono hle)
      try first | (have hlt := r0.lt; replace r0 := r0.of_eq (hbn.block _ (by omega))) | replace r0 := r0.below (hbn.mono hle)
      try first | (have hlt := m4.lt; replace m4 := m4.of_eq (hbn.block _ (by omega))) | replace m4 := m4.below (hbn.mono hle)
      try first | (have hlt := m7.lt; replace m7 := m7.of_eq (hbn.block _ (by omega))) | replace m7 := m7.below (hbn.mono hle)
      try first | (have hlt := row.lt; replace row := row.of_eq (hbn.block _ (by omega))) | replace row := row.below (hbn.mono hle)
      have m7 := ht
      clear ht
      refine hK _ _ ⟨fun _ => ⟨_, ov_of hX⟩, ?_⟩
      clear hK K
      try simp only [List.getElem_toArray, List.getElem_cons_zero, List.getElem_cons_succ]
      simp only [Act.put, putS]
      refine anyX_next 2 rfl (by kernel_rfl) rfl (fun K hK => ?_)
      try simp only [List.getElem_toArray, List.getElem_cons_zero, List.getElem_cons_succ]
      go_simp
      go_at_call 78
      refine (AR.out _).mono ?_
      rintro e wn ⟨rfl, hbn⟩
      have hsz := B.size
      have hzn := hbn.size
      have hsx := hX.size
      replace B := B.trans (hbn.mono B.size)
      replace hX := hX.trans (hbn.mono hX.size)
      try first | replace r1 := r1.of_eq (hbn.block _ r1.lt) | replace r1 := r1.below hbn
      try first | replace r0 := r0.of_eq (hbn.block _ r0.lt) | replace r0 := r0.below hbn
      try first | replace m4 := m4.of_eq (hbn.block _ m4.lt) | replace m4 := m4.below hbn
      try first | replace m7 := m7.of_eq (hbn.block _ m7.lt) | replace m7 := m7.below hbn
      try first | replace row := row.of_eq (hbn.block _ row.lt) | replace row := row.below hbn
      refine hK _ _ ⟨fun _ => ⟨_, ov_of hX⟩, ?_⟩
      clear hK K
      try simp only [List.getElem_toArray, List.getElem_cons_zero, List.getElem_cons_succ]
      simp only [Act.put, putS]
      refine anyX_next 3 rfl (by kernel_rfl) rfl (fun K hK => ?_)
      try simp only [List.getElem_toArray, List.getElem_cons_zero, List.getElem_cons_succ]
      refine owp_makeE (E := pxE) _ _ rfl (areaN c) (by rfl) (by rfl) (by omega) (by omega) ?_
      intro b_row wn hle hge ht hbn hzn
      have hsz := B.size
      have hsx := hX.size
      replace B := B.trans (hbn.mono (by omega))
      replace hX := hX.trans (hbn.mono (by omega))
      try first | (have hlt := r1.lt; replace r1 := r1.of_eq (hbn.block _ (by omega))) | replace r1 := r1.below (hbn.mono hle)
      try first | (have hlt := r0.lt; replace r0 := r0.of_eq (hbn.block _ (by omega))) | replace r0 := r0.below (hbn.mono hle)
      try first | (have hlt := m4.lt; replace m4 := m4.of_eq (hbn.block _ (by omega))) | replace m4 := m4.below (hbn.mono hle)
      try first | (have hlt := m7.lt; replace m7 := m7.of_eq (hbn.block _ (by omega))) | replace m7 := m7.below (hbn.mono hle)
      try first | (have hlt := row.lt; replace row := row.of_eq (hbn.block _ (by omega))) | replace row := row.below (hbn.mono hle)
      have row := ht
      clear ht
      refine hK _ _ ⟨fun _ => ⟨_, ov_of hX⟩, ?_⟩
      clear hK K
      try simp only [List.getElem_toArray, List.getElem_cons_zero, List.getElem_cons_succ]
      simp only [Act.put, putS]
      refine anyX_take 4 rfl (by kernel_rfl) ⟨_, ov_of hX⟩ ?_
      intro K hK
      try simp only [List.getElem_toArray, List.getElem_cons_zero, List.getElem_cons_succ]
      (first | (refine quiet_loadAny (t := 64) rfl _ _ _ rfl (fun w hw => run_load_rc (ov_B r0B w hw)) (by rfl) ?_; simp only [Act.put, putS]; go_big_quiet_on) | (go_big_quiet_op; go_big_quiet_on))
      simp only [Act.put, putS]
      refine anyX_seq (by kernel_rfl) (by kernel_rfl) ?_
      simp only [List.drop_succ_cons, List.drop_zero]
      go_wp2_with (first | (refine wpList_storeB (t := 68) rfl _ _ rfl _ rfl _ rfl m7 (by kernel_rfl) rfl (by simp [imgC, Value.oneCell']) ?_; clear m7; intro wn ht hcn hzn; have hsz := B.size; replace hzn := Nat.le_of_eq hzn.symm; replace B := Chg.below B hcn (by omega) B.size; (try replace r1 := r1.of_eq (hcn.block _ r1.lt (by omega))); (try replace r0 := r0.of_eq (hcn.block _ r0.lt (by omega))); (try replace m4 := m4.of_eq (hcn.block _ m4.lt (by omega))); (try replace row := row.of_eq (hcn.block _ row.lt (by omega))); have m7 := ht; clear ht; simp only [Act.put, putS]) | fail)
      refine NoPan.normal ?_
      go_wp2_with fail
      go_meet
      exact ⟨b_m7, b_row, rfl, m7, row, B, by omega, by omega, by omega, r1, r0, m4⟩
  case rest =>
    obtain ⟨b_m7, b_row, rfl, m7, row, B, p1, p2, p3, r1, r0, m4⟩ := hcut
    have k0 : w.heap.size ≤ b_row := by omega
    have k1 : b_r0 ≠ b_row := by omega
    have k2 : b_m7 ≠ b_row := p3
    have k3 : b_m4 ≠ b_row := by omega
    have k4 : b_m7 ≠ b_m4 := by omega
    go_wp2_with (first | (refine wpList_storeB (t := 68) rfl _ _ rfl _ rfl _ rfl m4 (by kernel_rfl) rfl (by simp [imgC, Value.oneCell']) ?_; clear m4; intro wn ht hcn hzn; have hsz := B.size; replace hzn := Nat.le_of_eq hzn.symm; replace B := Chg.below B hcn (by omega) B.size; (try replace r1 := r1.of_eq (hcn.block _ r1.lt (by omega))); (try replace r0 := r0.of_eq (hcn.block _ r0.lt (by omega))); (try replace m7 := m7.of_eq (hcn.block _ m7.lt (by omega))); (try replace row := row.of_eq (hcn.block _ row.lt (by omega))); have m4 := ht; clear ht; simp only [Act.put, putS]) | (refine wpList_loadAny (t := 68) rfl _ rfl _ _ _ rfl (run_load_img m7) (by rfl) ?_; simp only [Act.put, putS]) | (go_at_call 79; have hr0 := r0.lt; have hr1 := m7.lt; have hr2 := row.lt; have hsp := rs_sep HR0.out k0; have hsz := B.size; refine (P_mapped (imgF c) (fun s W => AtB 64 W b_r0 (rcA c) ∧ AtB 68 W b_m7 (imgC c (.slice (some ⟨b_row, 0, none⟩) (areaN c) (areaN c))) ∧ RowAt pxE W b_row s ∧ s.length = areaN c) b_row 80 #[.pointer (some ⟨b_r0, 0, none⟩), .pointer (some ⟨b_m7, 0, none⟩)] eg _ (fineL ls) (List.replicate (areaN c) Px.zero) _ (HT.out _ B).2 TK.out (by omega) HP.out hr2 hsp ⟨r0, m7, row, by simp⟩ (fun s W W' hI hk => ⟨hI.1.of_eq (hk _ hr0), hI.2.1.of_eq (hk _ hr1), hI.2.2.1.of_eq (hk _ hr2), hI.2.2.2⟩) (fun s W x y p _ hI h1 h2 h3 h4 hp => (P_Image1 c FT.out s hI.2.2.2 x y p b_r0 b_m7 b_row W hI.1 hI.2.1 hI.2.2.1 k1 k2).mono fun e W' hh => ⟨hh.1, ⟨hh.2.1.1, hh.2.1.2.1, hh.2.1.2.2, (imgF_len c s x y p).trans hI.2.2.2⟩, hh.2.2⟩) (imgF_ok c)).mono ?_; rintro e wn ⟨v1, rfl, _, hI, hcc⟩; have hzn := hcc.size; replace m4 := m4.of_eq (hcc.block _ m4.lt k3); replace B := Chg.below B hcc k0 hsz; obtain ⟨r0, m7, row, hlen⟩ := hI) | (go_at_call 68; refine (HT.out _ B).1.mono ?_; rintro e wn ⟨rfl, hbn⟩; have hsz := B.size; have hzn := hbn.size; replace B := B.trans (hbn.mono B.size); (try first | replace r1 := r1.of_eq (hbn.block _ r1.lt) | replace r1 := r1.below hbn); (try first | replace r0 := r0.of_eq (hbn.block _ r0.lt) | replace r0 := r0.below hbn); (try first | replace m4 := m4.of_eq (hbn.block _ m4.lt) | replace m4 := m4.below hbn); (try first | replace m7 := m7.of_eq (hbn.block _ m7.lt) | replace m7 := m7.below hbn); (try first | replace row := row.of_eq (hbn.block _ row.lt) | replace row := row.below hbn)) | (refine wpList_loadAny (t := 30) rfl _ rfl _ _ _ rfl (run_load_B r1 Try.isAgg30 (by kernel_rfl)) (by rfl) ?_; simp only [Act.put, putS]) | fail)
    refine bodyPost_ret (results_B2 (t := 68) rfl _ _ (b_m4) rfl _ rfl m4 Try.isAgg68 (by kernel_rfl)) rfl ?_
    refine ⟨_, rfl, ?_, B⟩
    have e := row.rs
    rw [hlen] at e
    exact e
end Go.Proofs.Ytppccnjckiedlaa
/- The sanity check of the raster laws: its values. -/
namespace Go.Proofs.Ytppccnjckiedlaa
open Go.RowKit Go.Shelf Pl
set_option linter.unusedVariables false
set_option linter.unusedSimpArgs false
set_option maxRecDepth 20000

def sP : Px := ⟨9, 0, 0, 255⟩
def sQ : Px := ⟨1, 0, 0, 0⟩
def sC : Rc := ⟨-2, 9, 0, 10⟩
theorem sP_ok : sP.ok := by unfold Px.ok sP; simp
theorem sQ_ok : sQ.ok := by unfold Px.ok sQ; simp
theorem s1 : setE [] (-1) 9 sP = 0 := by decide
theorem s2 : setR [] (-1) 9 sP = [⟨-1, 1, cleanT (setT zT 7 1 sP)⟩] := by rfl
def sR1 : List TA := [⟨-1, 1, cleanT (setT zT 7 1 sP)⟩]
theorem s3 : validL sR1 = true := by decide
theorem s4 : fineL sR1 = sR1 := fineL_of s3
theorem s5 : setE sR1 (-1) 9 sQ = 0 := by decide
theorem s6 : setR sR1 (-1) 9 sQ = [] := by rfl
theorem s7 : setE sR1 65536 0 sP = 1 := by decide
theorem s8 : fitsE sC = 0 := by decide
theorem s9 : getT (tileL sR1 (-1) 1) 7 1 = sP := by decide
theorem s10 : getL sR1 (-1) 9 = sP := by decide
theorem s11 : (imgPL sC sR1).length = 2 := by decide
theorem s12 : (imgPL sC sR1)[1]? = some sP := by decide
theorem s13 : boundL sR1 = ⟨-1, 9, 0, 10⟩ := by rfl

theorem sR1_tok : TokL sR1 := by
  have := setR_tok (ls := []) (x := -1) (y := 9) TokL.nil sP_ok
  rw [s2] at this
  exact this
/-! ### '==' of rectangles -/
instance decRc : DecidableEq Rc := fun a b =>
  if h : a.x0 = b.x0 ∧ a.y0 = b.y0 ∧ a.x1 = b.x1 ∧ a.y1 = b.y1 then isTrue (by obtain ⟨a1, a2, a3, a4⟩ := a; obtain ⟨b1, b2, b3, b4⟩ := b; obtain ⟨rfl, rfl, rfl, rfl⟩ := h; rfl)
  else isFalse fun e => h (by rw [e]; exact ⟨rfl, rfl, rfl, rfl⟩)
theorem equalIn_rc (d : Nat) (a b : Rc) (w : World) : (Op.equalIn (d + 2) 64 (Rc.v a) (Rc.v b)).run Try.prog w = .ok (decide (a = b)) w := by
  have h : (Op.equalIn (d + 2) 64 (Rc.v a) (Rc.v b)).run Try.prog w = .ok (a.x0 == b.x0 && (a.y0 == b.y0 && (a.x1 == b.x1 && a.y1 == b.y1))) w := by
    simp only [Rc.v]
    by_cases h1 : a.x0 = b.x0 <;> by_cases h2 : a.y0 = b.y0 <;> by_cases h3 : a.x1 = b.x1 <;> by_cases h4 : a.y1 = b.y1 <;> simp [go_sem, h1, h2, h3, h4]
  rw [h]
  congr 1
  rw [Bool.eq_iff_iff]
  obtain ⟨a1, a2, a3, a4⟩ := a
  obtain ⟨b1, b2, b3, b4⟩ := b
  simp
theorem eql_rc (a b : Rc) (w : World) : (binOp .eql 64 (Rc.v a) (Rc.v b)).run Try.prog w = .ok (.bool (decide (a = b))) w := by
  have h := run_eql_struct (P := Try.prog) w 64 #[.int .i64 a.x0, .int .i64 a.y0, .int .i64 a.x1, .int .i64 a.y1] #[.int .i64 b.x0, .int .i64 b.y0, .int .i64 b.x1, .int .i64 b.y1]
  have e := equalIn_rc 9998 a b w
  unfold Rc.v at e ⊢
  rw [h, e]; rfl
@[go_sem] theorem guard_rc (op : BinOp) (p q : Operand) (a b : Array Value) (w : World) : (eqGuard op 64 p q (.agg a) (.agg b)).run Try.prog w = .ok () w := run_eqGuard_agg w op 64 p q _ _ (by kernel_rfl)

theorem rce_px {g o : Nat} {ls : List Px} {w : World} (h : RCellsE pxE g o ls w) {i : Nat} {x : Px} (hi : ls[i]? = some x) : (Instr.loadAt 37 (.pointer (some ⟨g, o + i * 4, none⟩))).run Try.prog w = .ok (Px.v x) w :=
  h.load Try.isAgg37 hi

/-! ### The walk -/
set_option maxHeartbeats 2000000 in
theorem sanity08 (w : World) : Calls Try.prog 14 #[] w fun e w' => e = .returned (.bool true) ∧ Below w.heap.size w w' := by
  have B := Below.refl w.heap.size w
  have SET1 : Hid (∀ w, Calls Try.prog 26 #[.agg #[.slice none 0 0], .int .i64 (-1), .int .i64 9, Px.v sP] w fun e w' => ∃ a c, e = .returned (.tuple #[.agg #[.slice a 1 c], .int .i64 0]) ∧ RS (.slice a 1 c) sR1 w' ∧ Below w.heap.size w w') := Lib.hid fun w =>
    (P_SetR _ [] (-1) 9 sP w (RS.nil w) TokL.nil (by unfold maxLen; simp) (by rfl) (by rfl) sP_ok).mono fun e w' ⟨v, he, hr, hb⟩ => by
      obtain ⟨a, c, rfl, _⟩ := hr.len
      rw [s1] at he
      rw [s2] at he hr
      exact ⟨a, c, he, hr, hb⟩
  have SET2 : Hid (∀ v w, RS v sR1 w → Calls Try.prog 26 #[.agg #[v], .int .i64 (-1), .int .i64 9, Px.v sQ] w fun e w' => ∃ a c, e = .returned (.tuple #[.agg #[.slice a 0 c], .int .i64 0]) ∧ Below w.heap.size w w') := Lib.hid fun v w h =>
    (P_SetR _ sR1 (-1) 9 sQ w h sR1_tok (by unfold maxLen sR1; simp) (by rfl) (by rfl) sQ_ok).mono fun e w' ⟨v, he, hr, hb⟩ => by
      obtain ⟨a, c, rfl, _⟩ := hr.len
      rw [s5] at he
      rw [s6] at he hr
      exact ⟨a, c, he, hb⟩
  have SET3 : Hid (∀ v w, RS v sR1 w → Calls Try.prog 26 #[.agg #[v], .int .i64 65536, .int .i64 0, Px.v sP] w fun e w' => ∃ a n c, e = .returned (.tuple #[.agg #[.slice a n c], .int .i64 1]) ∧ Below w.heap.size w w') := Lib.hid fun v w h =>
    (P_SetR _ sR1 65536 0 sP w h sR1_tok (by unfold maxLen sR1; simp) (by rfl) (by rfl) sP_ok).mono fun e w' ⟨v, he, hr, hb⟩ => by
      obtain ⟨a, c, rfl, _⟩ := hr.len
      rw [s7] at he
      exact ⟨a, _, c, he, hb⟩
  have IMG : Hid (∀ v w, RS v sR1 w → Calls Try.prog 33 #[.agg #[v], .agg #[.int .i64 (-2), .int .i64 9, .int .i64 0, .int .i64 10]] w fun e w' => ∃ g o c, e = .returned (.tuple #[.agg (imgC sC (.slice (some ⟨g, o, none⟩) 2 c)), .int .i64 0]) ∧ RCellsE pxE g o (imgPL sC sR1) w' ∧ Below w.heap.size w w') := Lib.hid fun v w h =>
    (P_Image_ok _ sR1 sC w h sR1_tok (by unfold maxLen sR1; simp) s8).mono fun e w' ⟨u, he, hr, hb⟩ => by
      obtain ⟨a, c, rfl, _⟩ := hr.len
      rw [s4] at he hr
      rw [s11] at he hr
      obtain ⟨g, o, rfl, hc⟩ := hr.at (by rw [s11]; omega)
      exact ⟨g, o, c, he, hc, hb⟩
  have BND : Hid (∀ v w, RS v sR1 w → Calls Try.prog 38 #[.agg #[v]] w fun e w' => e = .returned (.agg #[.int .i64 (-1), .int .i64 9, .int .i64 0, .int .i64 10]) ∧ Below w.heap.size w w') := Lib.hid fun v w h =>
    (P_BoundsR _ sR1 w h sR1_tok (by unfold maxLen sR1; simp)).mono fun e w' ⟨he, hb⟩ => by
      rw [s4, s13] at he
      exact ⟨he, hb⟩
  have TIL : Hid (∀ v w, RS v sR1 w → Calls Try.prog 22 #[.agg #[v], .agg #[.int .i64 (-1), .int .i64 1]] w fun e w' => e = .returned (Tile.v (tileL sR1 (-1) 1)) ∧ Below w.heap.size w w') := Lib.hid fun v w h =>
    P_Tile _ sR1 (-1) 1 w h (by unfold maxLen sR1; simp)
  have GT : Hid (∀ w, Calls Try.prog 51 #[Tile.v (tileL sR1 (-1) 1), .int .i64 7, .int .i64 1] w fun e w' => e = .returned (Px.v sP) ∧ Below w.heap.size w w') := Lib.hid fun w =>
    (P_Get (tileL sR1 (-1) 1) 7 1 w).mono fun e w' ⟨he, hb⟩ => by
      rw [s9] at he
      exact ⟨he, hb⟩
  have GR : Hid (∀ v w, RS v sR1 w → Calls Try.prog 20 #[.agg #[v], .int .i64 (-1), .int .i64 9] w fun e w' => e = .returned (Px.v sP) ∧ Below w.heap.size w w') := Lib.hid fun v w h =>
    (P_GetR _ sR1 (-1) 9 w h (by unfold maxLen sR1; simp) (by rfl) (by rfl)).mono fun e w' ⟨he, hb⟩ => by
      rw [s10] at he
      exact ⟨he, hb⟩
  have VA : Hid (∀ v w, RS v sR1 w → Calls Try.prog 16 #[.agg #[v]] w fun e w' => e = .returned (.bool true) ∧ Below w.heap.size w w') := Lib.hid fun v w h =>
    (P_Valid _ sR1 w h sR1_tok (by unfold maxLen sR1; simp)).mono fun e w' ⟨he, hb⟩ => by
      rw [s3] at he
      exact ⟨he, hb⟩
  have cR : ∀ w, (binOp .eql 64 (.agg #[.int .i64 (-1), .int .i64 9, .int .i64 0, .int .i64 10]) (.agg #[.int .i64 (-1), .int .i64 9, .int .i64 0, .int .i64 10])).run Try.prog w = .ok (.bool true) w := fun w => by
    have := eql_rc ⟨-1, 9, 0, 10⟩ ⟨-1, 9, 0, 10⟩ w
    rw [show decide ((⟨-1, 9, 0, 10⟩ : Rc) = ⟨-1, 9, 0, 10⟩) = true from by decide] at this
    exact this
  have cP : ∀ w, (binOp .eql 37 (Px.v sP) (Px.v sP)).run Try.prog w = .ok (.bool true) w := fun w => by rw [eql_px]; rfl
  go_enter Try.func14, Try.ntmps14
  go_wp2_with (first | (refine wpList_storeB (t := 68) rfl _ _ rfl _ rfl _ rfl m8 (by kernel_rfl) rfl (by simp [imgC, Value.oneCell']) ?_; have m8o := m8; clear m8; intro wn ht hcn hzn; replace rs1 := rs1.chg m8o (by simp [imgC]) hcn; have hsz := B.size; replace hzn := Nat.le_of_eq hzn.symm; replace B := Chg.below B hcn (by omega) B.size; (try replace p1 := p1.of_eq (hcn.block _ p1.lt (by omega))); (try replace r2 := r2.of_eq (hcn.block _ r2.lt (by omega))); (try replace r4 := r4.of_eq (hcn.block _ r4.lt (by omega))); (try replace r6 := r6.of_eq (hcn.block _ r6.lt (by omega))); (try replace rs1 := rs1.of_eq (hcn.block _ rs1.lt (by omega))); (try replace row := row.of_eq (hcn.block _ row.lt (by omega))); have m8 := ht; clear ht; simp only [Act.put, putS]) | (have _ := row; refine wpList_allocBk (t := 68) rfl _ (run_alloc_Im _ _ rfl) ?_; intro b_m8 wn hle hge ht hbn hzn; have hsz := B.size; replace B := B.trans (hbn.mono (by omega)); have hln := Nat.lt_of_lt_of_eq (Nat.lt_succ_self _) hzn.symm; clear hzn; (try first | (have hlt := p1.lt; replace p1 := p1.of_eq (hbn.block _ (by omega))) | replace p1 := p1.below (hbn.mono hle)); (try first | (have hlt := r2.lt; replace r2 := r2.of_eq (hbn.block _ (by omega))) | replace r2 := r2.below (hbn.mono hle)); (try first | (have hlt := r4.lt; replace r4 := r4.of_eq (hbn.block _ (by omega))) | replace r4 := r4.below (hbn.mono hle)); (try first | (have hlt := r6.lt; replace r6 := r6.of_eq (hbn.block _ (by omega))) | replace r6 := r6.below (hbn.mono hle)); (try first | (have hlt := m8.lt; replace m8 := m8.of_eq (hbn.block _ (by omega))) | replace m8 := m8.below (hbn.mono hle)); (try first | (have hlt := rs1.lt; replace rs1 := rs1.of_eq (hbn.block _ (by omega))) | replace rs1 := rs1.below (hbn.mono hle)); (try first | (have hlt := row.lt; replace row := row.of_eq (hbn.block _ (by omega))) | replace row := row.below (hbn.mono hle)); have m8 := ht; clear ht; simp only [Act.put, putS]) | (have _ := r6; go_at_call 33; refine (IMG.out _ _ rs1).mono ?_; rintro e wn ⟨gr, og, cg, rfl, row, hbn⟩; have hsz := B.size; have hzn := hbn.size; replace B := B.trans (hbn.mono B.size); (try first | replace p1 := p1.of_eq (hbn.block _ p1.lt) | replace p1 := p1.below hbn); (try first | replace r2 := r2.of_eq (hbn.block _ r2.lt) | replace r2 := r2.below hbn); (try first | replace r4 := r4.of_eq (hbn.block _ r4.lt) | replace r4 := r4.below hbn); (try first | replace r6 := r6.of_eq (hbn.block _ r6.lt) | replace r6 := r6.below hbn); (try first | replace m8 := m8.of_eq (hbn.block _ m8.lt) | replace m8 := m8.below hbn); (try first | replace rs1 := rs1.of_eq (hbn.block _ rs1.lt) | replace rs1 := rs1.below hbn); (try first | replace row := row.of_eq (hbn.block _ row.lt) | replace row := row.below hbn); have hgr := row.lt) | (refine wpList_storeB (t := 30) rfl _ _ rfl _ rfl _ rfl r6 (by kernel_rfl) rfl (by simp [Value.oneCell']) ?_; have r6o := r6; clear r6; intro wn ht hcn hzn; replace rs1 := rs1.chg r6o (by simp) hcn; have hsz := B.size; replace hzn := Nat.le_of_eq hzn.symm; replace B := Chg.below B hcn (by omega) B.size; (try replace p1 := p1.of_eq (hcn.block _ p1.lt (by omega))); (try replace r2 := r2.of_eq (hcn.block _ r2.lt (by omega))); (try replace r4 := r4.of_eq (hcn.block _ r4.lt (by omega))); (try replace m8 := m8.of_eq (hcn.block _ m8.lt (by omega))); (try replace rs1 := rs1.of_eq (hcn.block _ rs1.lt (by omega))); (try replace row := row.of_eq (hcn.block _ row.lt (by omega))); have r6 := ht; clear ht; simp only [Act.put, putS]) | (have _ := r4; refine wpList_allocBk (t := 30) rfl _ (run_alloc_R _ _ rfl) ?_; intro b_r6 wn hle hge ht hbn hzn; have hsz := B.size; replace B := B.trans (hbn.mono (by omega)); have hln := Nat.lt_of_lt_of_eq (Nat.lt_succ_self _) hzn.symm; clear hzn; (try first | (have hlt := p1.lt; replace p1 := p1.of_eq (hbn.block _ (by omega))) | replace p1 := p1.below (hbn.mono hle)); (try first | (have hlt := r2.lt; replace r2 := r2.of_eq (hbn.block _ (by omega))) | replace r2 := r2.below (hbn.mono hle)); (try first | (have hlt := r4.lt; replace r4 := r4.of_eq (hbn.block _ (by omega))) | replace r4 := r4.below (hbn.mono hle)); (try first | (have hlt := r6.lt; replace r6 := r6.of_eq (hbn.block _ (by omega))) | replace r6 := r6.below (hbn.mono hle)); (try first | (have hlt := m8.lt; replace m8 := m8.of_eq (hbn.block _ (by omega))) | replace m8 := m8.below (hbn.mono hle)); (try first | (have hlt := rs1.lt; replace rs1 := rs1.of_eq (hbn.block _ (by omega))) | replace rs1 := rs1.below (hbn.mono hle)); (try first | (have hlt := row.lt; replace row := row.of_eq (hbn.block _ (by omega))) | replace row := row.below (hbn.mono hle)); have r6 := ht; clear ht; simp only [Act.put, putS]) | (have _ := r4; go_at_call 26; refine (SET3.out _ _ rs1).mono ?_; rintro e wn ⟨a3, n3, c3, rfl, hbn⟩; have hsz := B.size; have hzn := hbn.size; replace B := B.trans (hbn.mono B.size); (try first | replace p1 := p1.of_eq (hbn.block _ p1.lt) | replace p1 := p1.below hbn); (try first | replace r2 := r2.of_eq (hbn.block _ r2.lt) | replace r2 := r2.below hbn); (try first | replace r4 := r4.of_eq (hbn.block _ r4.lt) | replace r4 := r4.below hbn); (try first | replace r6 := r6.of_eq (hbn.block _ r6.lt) | replace r6 := r6.below hbn); (try first | replace m8 := m8.of_eq (hbn.block _ m8.lt) | replace m8 := m8.below hbn); (try first | replace rs1 := rs1.of_eq (hbn.block _ rs1.lt) | replace rs1 := rs1.below hbn); (try first | replace row := row.of_eq (hbn.block _ row.lt) | replace row := row.below hbn)) | (refine wpList_storeB (t := 30) rfl _ _ rfl _ rfl _ rfl r4 (by kernel_rfl) rfl (by simp [Value.oneCell']) ?_; have r4o := r4; clear r4; intro wn ht hcn hzn; replace rs1 := rs1.chg r4o (by simp) hcn; have hsz := B.size; replace hzn := Nat.le_of_eq hzn.symm; replace B := Chg.below B hcn (by omega) B.size; (try replace p1 := p1.of_eq (hcn.block _ p1.lt (by omega))); (try replace r2 := r2.of_eq (hcn.block _ r2.lt (by omega))); (try replace r6 := r6.of_eq (hcn.block _ r6.lt (by omega))); (try replace m8 := m8.of_eq (hcn.block _ m8.lt (by omega))); (try replace rs1 := rs1.of_eq (hcn.block _ rs1.lt (by omega))); (try replace row := row.of_eq (hcn.block _ row.lt (by omega))); have r4 := ht; clear ht; simp only [Act.put, putS]) | (have _ := r2; refine wpList_allocBk (t := 30) rfl _ (run_alloc_R _ _ rfl) ?_; intro b_r4 wn hle hge ht hbn hzn; have hsz := B.size; replace B := B.trans (hbn.mono (by omega)); have hln := Nat.lt_of_lt_of_eq (Nat.lt_succ_self _) hzn.symm; clear hzn; (try first | (have hlt := p1.lt; replace p1 := p1.of_eq (hbn.block _ (by omega))) | replace p1 := p1.below (hbn.mono hle)); (try first | (have hlt := r2.lt; replace r2 := r2.of_eq (hbn.block _ (by omega))) | replace r2 := r2.below (hbn.mono hle)); (try first | (have hlt := r4.lt; replace r4 := r4.of_eq (hbn.block _ (by omega))) | replace r4 := r4.below (hbn.mono hle)); (try first | (have hlt := r6.lt; replace r6 := r6.of_eq (hbn.block _ (by omega))) | replace r6 := r6.below (hbn.mono hle)); (try first | (have hlt := m8.lt; replace m8 := m8.of_eq (hbn.block _ (by omega))) | replace m8 := m8.below (hbn.mono hle)); (try first | (have hlt := rs1.lt; replace rs1 := rs1.of_eq (hbn.block _ (by omega))) | replace rs1 := rs1.below (hbn.mono hle)); (try first | (have hlt := row.lt; replace row := row.of_eq (hbn.block _ (by omega))) | replace row := row.below (hbn.mono hle)); have r4 := ht; clear ht; simp only [Act.put, putS]) | (have _ := r2; go_at_call 26; refine (SET2.out _ _ rs1).mono ?_; rintro e wn ⟨a2, c2, rfl, hbn⟩; have hsz := B.size; have hzn := hbn.size; replace B := B.trans (hbn.mono B.size); (try first | replace p1 := p1.of_eq (hbn.block _ p1.lt) | replace p1 := p1.below hbn); (try first | replace r2 := r2.of_eq (hbn.block _ r2.lt) | replace r2 := r2.below hbn); (try first | replace r4 := r4.of_eq (hbn.block _ r4.lt) | replace r4 := r4.below hbn); (try first | replace r6 := r6.of_eq (hbn.block _ r6.lt) | replace r6 := r6.below hbn); (try first | replace m8 := m8.of_eq (hbn.block _ m8.lt) | replace m8 := m8.below hbn); (try first | replace rs1 := rs1.of_eq (hbn.block _ rs1.lt) | replace rs1 := rs1.below hbn); (try first | replace row := row.of_eq (hbn.block _ row.lt) | replace row := row.below hbn)) | (refine wpList_loadAny (t := 30) rfl _ rfl _ _ _ rfl (run_load_B r2 Try.isAgg30 (by kernel_rfl)) (by rfl) ?_; simp only [Act.put, putS]) | (refine wpList_storeB (t := 30) rfl _ _ rfl _ rfl _ rfl r2 (by kernel_rfl) rfl (by simp [Value.oneCell']) ?_; have r2o := r2; clear r2; intro wn ht hcn hzn; replace rs1 := rs1.chg r2o (by simp) hcn; have hsz := B.size; replace hzn := Nat.le_of_eq hzn.symm; replace B := Chg.below B hcn (by omega) B.size; (try replace p1 := p1.of_eq (hcn.block _ p1.lt (by omega))); (try replace r4 := r4.of_eq (hcn.block _ r4.lt (by omega))); (try replace r6 := r6.of_eq (hcn.block _ r6.lt (by omega))); (try replace m8 := m8.of_eq (hcn.block _ m8.lt (by omega))); (try replace rs1 := rs1.of_eq (hcn.block _ rs1.lt (by omega))); (try replace row := row.of_eq (hcn.block _ row.lt (by omega))); have r2 := ht; clear ht; simp only [Act.put, putS]) | (have _ := rs1; refine wpList_allocBk (t := 30) rfl _ (run_alloc_R _ _ rfl) ?_; intro b_r2 wn hle hge ht hbn hzn; have hsz := B.size; replace B := B.trans (hbn.mono (by omega)); have hln := Nat.lt_of_lt_of_eq (Nat.lt_succ_self _) hzn.symm; clear hzn; (try first | (have hlt := p1.lt; replace p1 := p1.of_eq (hbn.block _ (by omega))) | replace p1 := p1.below (hbn.mono hle)); (try first | (have hlt := r2.lt; replace r2 := r2.of_eq (hbn.block _ (by omega))) | replace r2 := r2.below (hbn.mono hle)); (try first | (have hlt := r4.lt; replace r4 := r4.of_eq (hbn.block _ (by omega))) | replace r4 := r4.below (hbn.mono hle)); (try first | (have hlt := r6.lt; replace r6 := r6.of_eq (hbn.block _ (by omega))) | replace r6 := r6.below (hbn.mono hle)); (try first | (have hlt := m8.lt; replace m8 := m8.of_eq (hbn.block _ (by omega))) | replace m8 := m8.below (hbn.mono hle)); (try first | (have hlt := rs1.lt; replace rs1 := rs1.of_eq (hbn.block _ (by omega))) | replace rs1 := rs1.below (hbn.mono hle)); (try first | (have hlt := row.lt; replace row := row.of_eq (hbn.block _ (by omega))) | replace row := row.below (hbn.mono hle)); have r2 := ht; clear ht; simp only [Act.put, putS]) | (go_at_call 26; refine (SET1.out _).mono ?_; rintro e wn ⟨a1, c1, rfl, rs1, hbn⟩; have hsz := B.size; have hzn := hbn.size; replace B := B.trans (hbn.mono B.size); (try first | replace p1 := p1.of_eq (hbn.block _ p1.lt) | replace p1 := p1.below hbn); (try first | replace r2 := r2.of_eq (hbn.block _ r2.lt) | replace r2 := r2.below hbn); (try first | replace r4 := r4.of_eq (hbn.block _ r4.lt) | replace r4 := r4.below hbn); (try first | replace r6 := r6.of_eq (hbn.block _ r6.lt) | replace r6 := r6.below hbn); (try first | replace m8 := m8.of_eq (hbn.block _ m8.lt) | replace m8 := m8.below hbn); (try first | replace rs1 := rs1.of_eq (hbn.block _ rs1.lt) | replace rs1 := rs1.below hbn); (try first | replace row := row.of_eq (hbn.block _ row.lt) | replace row := row.below hbn)) | (refine wpList_loadPx rfl _ rfl _ rfl p1 ?_; simp only [Act.put, putS]) | (refine wpList_storePx rfl _ _ rfl _ rfl (sP) rfl p1 ?_; clear p1; intro wn ht hcn hzn; have hsz := B.size; replace hzn := Nat.le_of_eq hzn.symm; replace B := Chg.below B hcn (by omega) B.size; (try replace r2 := r2.of_eq (hcn.block _ r2.lt (by omega))); (try replace r4 := r4.of_eq (hcn.block _ r4.lt (by omega))); (try replace r6 := r6.of_eq (hcn.block _ r6.lt (by omega))); (try replace m8 := m8.of_eq (hcn.block _ m8.lt (by omega))); (try replace rs1 := rs1.of_eq (hcn.block _ rs1.lt (by omega))); (try replace row := row.of_eq (hcn.block _ row.lt (by omega))); have p1 := ht; clear ht; simp only [Act.put, putS]) | (refine wpList_allocPx' rfl rfl ?_; intro b_p1 wn hle hge ht hbn hzn; have hsz := B.size; replace B := B.trans (hbn.mono (by omega)); have hln := Nat.lt_of_lt_of_eq (Nat.lt_succ_self _) hzn.symm; clear hzn; (try first | (have hlt := p1.lt; replace p1 := p1.of_eq (hbn.block _ (by omega))) | replace p1 := p1.below (hbn.mono hle)); (try first | (have hlt := r2.lt; replace r2 := r2.of_eq (hbn.block _ (by omega))) | replace r2 := r2.below (hbn.mono hle)); (try first | (have hlt := r4.lt; replace r4 := r4.of_eq (hbn.block _ (by omega))) | replace r4 := r4.below (hbn.mono hle)); (try first | (have hlt := r6.lt; replace r6 := r6.of_eq (hbn.block _ (by omega))) | replace r6 := r6.below (hbn.mono hle)); (try first | (have hlt := m8.lt; replace m8 := m8.of_eq (hbn.block _ (by omega))) | replace m8 := m8.below (hbn.mono hle)); (try first | (have hlt := rs1.lt; replace rs1 := rs1.of_eq (hbn.block _ (by omega))) | replace rs1 := rs1.below (hbn.mono hle)); (try first | (have hlt := row.lt; replace row := row.of_eq (hbn.block _ (by omega))) | replace row := row.below (hbn.mono hle)); have p1 := ht; clear ht; simp only [Act.put, putS]) | fail)
  simp only [List.append_eq, List.cons_append, List.nil_append]
  refine wp_region_ov (by kernel_rfl) (by kernel_rfl) ?_
  repeat (first | go_big_quiet_skip | (go_big_quiet_want; first | (refine quiet_loadAny (t := 37) rfl _ _ _ rfl (fun w hw => rce_px (ov_rce row w hw) (i := 1) s12) (by first | rfl | omega) ?_; simp only [Act.put, putS]; go_big_quiet_on) | (refine quiet_loadAny (t := 66) rfl _ _ _ rfl (fun w hw => run_load_slp (imgC_u (ov_B m8 w hw))) (by rfl) ?_; simp only [Act.put, putS]; go_big_quiet_on) | (refine quiet_loadPx rfl _ rfl (ov_px p1) ?_; simp only [Act.put, putS]; go_big_quiet_on) | (refine quiet_loadAny (t := 28) rfl _ _ _ rfl (fun w hw => run_load_sl (ov_B r4 w hw).cell0) (by rfl) ?_; simp only [Act.put, putS]; go_big_quiet_on) | (refine quiet_loadAny (t := 28) rfl _ _ _ rfl (fun w hw => run_load_sl (ov_B r2 w hw).cell0) (by rfl) ?_; simp only [Act.put, putS]; go_big_quiet_on) | (refine quiet_loadAny (t := 30) rfl _ _ _ rfl (fun w hw => run_load_B (ov_B r2 w hw) Try.isAgg30 (by kernel_rfl)) (by rfl) ?_; simp only [Act.put, putS]; go_big_quiet_on) | (go_big_quiet_op; first | go_big_quiet_on | go_big_quiet_call ((first | (go_at_call 16; exact calls_ov (VA.out _ _ (ov_rs rs1 _ ⟨_, rfl⟩))) | (go_at_call 20; exact calls_ov (GR.out _ _ (ov_rs rs1 _ ⟨_, rfl⟩))) | (go_at_call 51; exact calls_ov (GT.out _)) | (go_at_call 22; exact calls_ov (TIL.out _ _ (ov_rs rs1 _ ⟨_, rfl⟩))) | (go_at_call 38; exact calls_ov (BND.out _ _ (ov_rs rs1 _ ⟨_, rfl⟩))))))))
  refine wpQuiet_nil ?_
  intro wn hbn
  have hsz := B.size
  have hzn := hbn.size
  replace B := B.trans (hbn.mono B.size)
  try first | replace p1 := p1.of_eq (hbn.block _ p1.lt) | replace p1 := p1.below hbn
  try first | replace r2 := r2.of_eq (hbn.block _ r2.lt) | replace r2 := r2.below hbn
  try first | replace r4 := r4.of_eq (hbn.block _ r4.lt) | replace r4 := r4.below hbn
  try first | replace r6 := r6.of_eq (hbn.block _ r6.lt) | replace r6 := r6.below hbn
  try first | replace m8 := m8.of_eq (hbn.block _ m8.lt) | replace m8 := m8.below hbn
  try first | replace rs1 := rs1.of_eq (hbn.block _ rs1.lt) | replace rs1 := rs1.below hbn
  try first | replace row := row.of_eq (hbn.block _ row.lt) | replace row := row.below hbn
  go_wp2
  go_ret
  exact ⟨rfl, B⟩
end Go.Proofs.Ytppccnjckiedlaa
/- Contracts of gouacheref04.Made, gouacheref07.Made. -/
namespace Go.Proofs.Ytppccnjckiedlaa
open Go.RowKit Go.Shelf Pl
set_option linter.unusedVariables false
set_option linter.unusedSimpArgs false
set_option maxRecDepth 20000

section
variable {ops : Array Oper} {rest : List Oper} {o : Oper} {a : Act} {w : World} {Q : Exit → Act → World → Prop}
theorem wpList_storePa (hg : o.guard = none) (x y : Operand) (ho : o.op = .store 5 x y) (b : Nat) (hx : a.eval x = .pointer (some ⟨b, 3, none⟩)) (n : Int) (hy : a.eval y = .int .u8 n) {p : Px} (ht : PixAt w b p)
    (h : ∀ w', PixAt w' b ⟨p.r, p.g, p.b, n⟩ → Chg b w w' → w'.heap.size = w.heap.size → wpList Try.prog ops Q rest (a.put o.dst undef) w') : wpList Try.prog ops Q (o :: rest) a w := by
  refine wpList_storeAny hg x y ho (w.setCell ⟨b, 3, none⟩ (.int .u8 n)) ?_ (h _ ?_ ((Chg.refl b w).setCell _) (by simp only [World.size_setCell]))
  · rw [hx, hy]
    obtain ⟨c0, c1, c2, c3⟩ := ht.cells
    have hf := ht
    unfold PixAt at hf
    have hfr := AtB.frozen (t := 37) hf 3
    simp [go_sem, c3, hfr]
  · have := heap_setCell_same w b 3 _ _ (.int .u8 n) ht
    exact this
end
def madeA (u : Int) : Int := if u % 5 = 1 then 255 else if u % 5 = 3 then 0 else u / 16777216
def madeP (x : Int) : Px := ⟨x % 256, x % 4294967296 / 256 % 256, x % 4294967296 / 65536 % 256, madeA (x % 4294967296)⟩
theorem madeP_ok (x : Int) : (madeP x).ok := by
  unfold madeP Px.ok madeA
  refine ⟨⟨?_, ?_⟩, ⟨?_, ?_⟩, ⟨?_, ?_⟩, ?_, ?_⟩ <;> simp only <;> (try split) <;> (try split) <;> omega
set_option maxHeartbeats 1000000 in
theorem R_Made4 (x : Int) (w : World) : Calls Try.prog 24 #[.int .i64 x] w fun e w' => e = .returned (Px.v (madeP x)) ∧ Below w.heap.size w w' := by
  have B := Below.refl w.heap.size w
  by_cases h1 : x % 4294967296 % 5 = 1
  · have e1 : madeP x = ⟨x % 256, x % 4294967296 / 256 % 256, x % 4294967296 / 65536 % 256, 255⟩ := by unfold madeP madeA; rw [if_pos h1]
    have d1 : (x % 4294967296 % 5 == 1) = true := by simp; omega
    have d3 : (x % 4294967296 % 5 == 3) = false := by simp; omega
    rw [e1]
    clear e1 h1
    go_enter Try.func24, Try.ntmps24
    go_wp2_with (first | (refine wpList_storePx rfl _ _ rfl _ rfl (⟨_, _, _, _⟩) rfl q2 ?_; clear q2; intro wn ht hcn hzn; have hsz := B.size; replace hzn := Nat.le_of_eq hzn.symm; replace B := Chg.below B hcn (by omega) B.size; (try replace q4 := q4.of_eq (hcn.block _ q4.lt (by omega))); have q2 := ht; clear ht; simp only [Act.put, putS]) | (refine wpList_storePa rfl _ _ rfl _ rfl _ rfl q4 ?_; clear q4; intro wn ht hcn hzn; have hsz := B.size; replace hzn := Nat.le_of_eq hzn.symm; replace B := Chg.below B hcn (by omega) B.size; (try replace q2 := q2.of_eq (hcn.block _ q2.lt (by omega))); have q4 := ht; clear ht; simp only [Act.put, putS]) | (refine wpList_loadPx rfl _ rfl _ rfl q4 ?_; simp only [Act.put, putS]) | (refine wpList_storePx rfl _ _ rfl _ rfl (⟨_, _, _, _⟩) rfl q4 ?_; clear q4; intro wn ht hcn hzn; have hsz := B.size; replace hzn := Nat.le_of_eq hzn.symm; replace B := Chg.below B hcn (by omega) B.size; (try replace q2 := q2.of_eq (hcn.block _ q2.lt (by omega))); have q4 := ht; clear ht; simp only [Act.put, putS]) | (have _ := q2; refine wpList_allocPx' rfl rfl ?_; intro b_q4 wn hle hge ht hbn hzn; have hsz := B.size; replace B := B.trans (hbn.mono (by omega)); have hln := Nat.lt_of_lt_of_eq (Nat.lt_succ_self _) hzn.symm; clear hzn; (try first | (have hlt := q2.lt; replace q2 := q2.of_eq (hbn.block _ (by omega))) | replace q2 := q2.below (hbn.mono hle)); (try first | (have hlt := q4.lt; replace q4 := q4.of_eq (hbn.block _ (by omega))) | replace q4 := q4.below (hbn.mono hle)); have q4 := ht; clear ht; simp only [Act.put, putS]) | (refine wpList_allocPx' rfl rfl ?_; intro b_q2 wn hle hge ht hbn hzn; have hsz := B.size; replace B := B.trans (hbn.mono (by omega)); have hln := Nat.lt_of_lt_of_eq (Nat.lt_succ_self _) hzn.symm; clear hzn; (try first | (have hlt := q2.lt; replace q2 := q2.of_eq (hbn.block _ (by omega))) | replace q2 := q2.below (hbn.mono hle)); (try first | (have hlt := q4.lt; replace q4 := q4.of_eq (hbn.block _ (by omega))) | replace q4 := q4.below (hbn.mono hle)); have q2 := ht; clear ht; simp only [Act.put, putS]) | fail)
    refine bodyPost_ret (results_px rfl _ _ (b_q2) rfl q2) rfl ?_
    exact ⟨rfl, B⟩
  · have d1 : (x % 4294967296 % 5 == 1) = false := by simp; omega
    by_cases h3 : x % 4294967296 % 5 = 3
    · have e1 : madeP x = ⟨x % 256, x % 4294967296 / 256 % 256, x % 4294967296 / 65536 % 256, 0⟩ := by unfold madeP madeA; rw [if_neg h1, if_pos h3]
      have d3 : (x % 4294967296 % 5 == 3) = true := by simp; omega
      rw [e1]
      clear e1 h1 h3
      go_enter Try.func24, Try.ntmps24
      go_wp2_with (first | (refine wpList_storePx rfl _ _ rfl _ rfl (⟨_, _, _, _⟩) rfl q2 ?_; clear q2; intro wn ht hcn hzn; have hsz := B.size; replace hzn := Nat.le_of_eq hzn.symm; replace B := Chg.below B hcn (by omega) B.size; (try replace q4 := q4.of_eq (hcn.block _ q4.lt (by omega))); have q2 := ht; clear ht; simp only [Act.put, putS]) | (refine wpList_storePa rfl _ _ rfl _ rfl _ rfl q4 ?_; clear q4; intro wn ht hcn hzn; have hsz := B.size; replace hzn := Nat.le_of_eq hzn.symm; replace B := Chg.below B hcn (by omega) B.size; (try replace q2 := q2.of_eq (hcn.block _ q2.lt (by omega))); have q4 := ht; clear ht; simp only [Act.put, putS]) | (refine wpList_loadPx rfl _ rfl _ rfl q4 ?_; simp only [Act.put, putS]) | (refine wpList_storePx rfl _ _ rfl _ rfl (⟨_, _, _, _⟩) rfl q4 ?_; clear q4; intro wn ht hcn hzn; have hsz := B.size; replace hzn := Nat.le_of_eq hzn.symm; replace B := Chg.below B hcn (by omega) B.size; (try replace q2 := q2.of_eq (hcn.block _ q2.lt (by omega))); have q4 := ht; clear ht; simp only [Act.put, putS]) | (have _ := q2; refine wpList_allocPx' rfl rfl ?_; intro b_q4 wn hle hge ht hbn hzn; have hsz := B.size; replace B := B.trans (hbn.mono (by omega)); have hln := Nat.lt_of_lt_of_eq (Nat.lt_succ_self _) hzn.symm; clear hzn; (try first | (have hlt := q2.lt; replace q2 := q2.of_eq (hbn.block _ (by omega))) | replace q2 := q2.below (hbn.mono hle)); (try first | (have hlt := q4.lt; replace q4 := q4.of_eq (hbn.block _ (by omega))) | replace q4 := q4.below (hbn.mono hle)); have q4 := ht; clear ht; simp only [Act.put, putS]) | (refine wpList_allocPx' rfl rfl ?_; intro b_q2 wn hle hge ht hbn hzn; have hsz := B.size; replace B := B.trans (hbn.mono (by omega)); have hln := Nat.lt_of_lt_of_eq (Nat.lt_succ_self _) hzn.symm; clear hzn; (try first | (have hlt := q2.lt; replace q2 := q2.of_eq (hbn.block _ (by omega))) | replace q2 := q2.below (hbn.mono hle)); (try first | (have hlt := q4.lt; replace q4 := q4.of_eq (hbn.block _ (by omega))) | replace q4 := q4.below (hbn.mono hle)); have q2 := ht; clear ht; simp only [Act.put, putS]) | fail)
      refine bodyPost_ret (results_px rfl _ _ (b_q2) rfl q2) rfl ?_
      exact ⟨rfl, B⟩
    · have e1 : madeP x = ⟨x % 256, x % 4294967296 / 256 % 256, x % 4294967296 / 65536 % 256, x % 4294967296 / 16777216⟩ := by unfold madeP madeA; rw [if_neg h1, if_neg h3]
      have d3 : (x % 4294967296 % 5 == 3) = false := by simp; omega
      rw [e1]
      clear e1 h1 h3
      go_enter Try.func24, Try.ntmps24
      go_wp2_with (first | (refine wpList_storePx rfl _ _ rfl _ rfl (⟨_, _, _, _⟩) rfl q2 ?_; clear q2; intro wn ht hcn hzn; have hsz := B.size; replace hzn := Nat.le_of_eq hzn.symm; replace B := Chg.below B hcn (by omega) B.size; (try replace q4 := q4.of_eq (hcn.block _ q4.lt (by omega))); have q2 := ht; clear ht; simp only [Act.put, putS]) | (refine wpList_storePa rfl _ _ rfl _ rfl _ rfl q4 ?_; clear q4; intro wn ht hcn hzn; have hsz := B.size; replace hzn := Nat.le_of_eq hzn.symm; replace B := Chg.below B hcn (by omega) B.size; (try replace q2 := q2.of_eq (hcn.block _ q2.lt (by omega))); have q4 := ht; clear ht; simp only [Act.put, putS]) | (refine wpList_loadPx rfl _ rfl _ rfl q4 ?_; simp only [Act.put, putS]) | (refine wpList_storePx rfl _ _ rfl _ rfl (⟨_, _, _, _⟩) rfl q4 ?_; clear q4; intro wn ht hcn hzn; have hsz := B.size; replace hzn := Nat.le_of_eq hzn.symm; replace B := Chg.below B hcn (by omega) B.size; (try replace q2 := q2.of_eq (hcn.block _ q2.lt (by omega))); have q4 := ht; clear ht; simp only [Act.put, putS]) | (have _ := q2; refine wpList_allocPx' rfl rfl ?_; intro b_q4 wn hle hge ht hbn hzn; have hsz := B.size; replace B := B.trans (hbn.mono (by omega)); have hln := Nat.lt_of_lt_of_eq (Nat.lt_succ_self _) hzn.symm; clear hzn; (try first | (have hlt := q2.lt; replace q2 := q2.of_eq (hbn.block _ (by omega))) | replace q2 := q2.below (hbn.mono hle)); (try first | (have hlt := q4.lt; replace q4 := q4.of_eq (hbn.block _ (by omega))) | replace q4 := q4.below (hbn.mono hle)); have q4 := ht; clear ht; simp only [Act.put, putS]) | (refine wpList_allocPx' rfl rfl ?_; intro b_q2 wn hle hge ht hbn hzn; have hsz := B.size; replace B := B.trans (hbn.mono (by omega)); have hln := Nat.lt_of_lt_of_eq (Nat.lt_succ_self _) hzn.symm; clear hzn; (try first | (have hlt := q2.lt; replace q2 := q2.of_eq (hbn.block _ (by omega))) | replace q2 := q2.below (hbn.mono hle)); (try first | (have hlt := q4.lt; replace q4 := q4.of_eq (hbn.block _ (by omega))) | replace q4 := q4.below (hbn.mono hle)); have q2 := ht; clear ht; simp only [Act.put, putS]) | fail)
      refine bodyPost_ret (results_px rfl _ _ (b_q2) rfl q2) rfl ?_
      exact ⟨rfl, B⟩
end Go.Proofs.Ytppccnjckiedlaa
/- Slices of integers; contracts of gouacheref07.Made, pick. -/
namespace Go.Proofs.Ytppccnjckiedlaa
open Go.RowKit Go.Shelf Pl
set_option linter.unusedVariables false
set_option linter.unusedSimpArgs false
set_option maxRecDepth 20000

def inE : Elt Int 1 3 22 where
  enc := fun x => #[.int .i64 x]
  bytes := 8
  zero := 0
  size := fun _ => rfl
  one := fun x u hu => by
    have : u ∈ [Value.int .i64 x] := hu
    rw [List.mem_singleton.1 this]; rfl
  pos := by omega
  small := by omega
  und := Try.underlying22
  info := by kernel_rfl
  zer := by kernel_rfl
theorem rci_int {g o : Nat} {L : List Int} {w : World} (h : RCellsE inE g o L w) {i : Nat} {x : Int} (hi : L[i]? = some x) : w.cell? ⟨g, o + i, none⟩ = some (.int .i64 x) := by
  have := h.2 i x hi 0 (by omega)
  rw [Nat.mul_one, Nat.add_zero] at this
  exact this
def getI (L : List Int) (i : Nat) : Int := L.getD i 0
theorem getD_some {L : List Int} {i : Nat} (h : i < L.length) : L[i]? = some (getI L i) := by
  unfold getI
  rw [List.getD_eq_getElem?_getD, List.getElem?_eq_getElem h]; rfl
def madeS (L : List Int) (i : Nat) : Int := getI L (i * L.length / 64)
def madeQ (L : List Int) (i : Nat) : Px := if madeS L i % 4 = 2 then cleanP (madeP (madeS L i + 7919 * i)) else cleanP (madeP (madeS L i))
def madeT (L : List Int) : Nat → Px := if L.length = 0 then zT else madeQ L
def pickI (L : List Int) (i : Nat) (m : Int) : Int := if i < L.length then getI L i % 1048576 % m else 0
set_option maxHeartbeats 1000000 in
theorem R_pick (v : Value) (L : List Int) (i : Nat) (m : Int) (w : World) (h : RSE inE v L w) (hn : L.length ≤ 17592186044416) (hm : 0 < m) (hm2 : m ≤ 100) : Calls Try.prog 61 #[v, .int .i64 i, .int .i64 m] w fun e w' => e = .returned (.int .i64 (pickI L i m)) ∧ w' = w := by
  obtain ⟨a, c, rfl, hc⟩ := h.len
  by_cases hi : i < L.length
  · have e1 : pickI L i m = getI L i % 1048576 % m := by unfold pickI; rw [if_pos hi]
    rw [e1]
    obtain ⟨g, o, rfl, rc⟩ := h.at (by omega)
    have hix := hi
    have b1 := bits_and1048575 (getI L i)
    have d1 : decide ((i : Int) < (L.length : Int)) = true := decide_eq_true (by omega)
    go_enter Try.func61, Try.ntmps61
    go_wp2_with (first | (refine wpList_loadAny (t := 3) rfl _ rfl _ _ _ rfl (run_load_int (rci_int rc (getD_some hix))) (by first | with_reducible rfl | omega) ?_; simp only [Act.put, putS]) | fail)
    go_ret
    exact ⟨rfl, rfl⟩
  · have e1 : pickI L i m = 0 := by unfold pickI; rw [if_neg hi]
    have d1 : decide ((i : Int) < (L.length : Int)) = false := decide_eq_false (by omega)
    rw [e1]
    go_enter Try.func61, Try.ntmps61
    go_wp2
    go_ret
    exact ⟨rfl, rfl⟩
end Go.Proofs.Ytppccnjckiedlaa
/- Contract of gouacheref08.Made. -/
namespace Go.Proofs.Ytppccnjckiedlaa
open Go.RowKit Go.Shelf Pl
set_option linter.unusedVariables false
set_option linter.unusedSimpArgs false
set_option maxRecDepth 20000

theorem pickI_bd (L : List Int) (i : Nat) : 0 ≤ pickI L i 48 ∧ pickI L i 48 < 48 := by
  unfold pickI; split <;> omega
theorem R_pickB (v : Value) (L : List Int) (i : Nat) (j : Int) (hj : j = i) (w : World) (h : RSE inE v L w) (hn : L.length ≤ 17592186044416) : Calls Try.prog 61 #[v, .int .i64 j, .int .i64 48] w fun e w' => e = .returned (.int .i64 (pickI L i 48)) ∧ Below w.heap.size w w' := by
  subst hj
  exact (R_pick v L i 48 w h hn (by omega) (by omega)).mono fun e w' ⟨he, hw⟩ => ⟨he, hw ▸ Below.refl _ _⟩
/-- The raster that Made of gouacheref08 builds, after k rounds. -/
def madeK (L : List Int) : Nat → List TA
  | 0 => []
  | k + 1 => if 3 * k + 2 < L.length then setR (madeK L k) (pickI L (3 * k) 48 - 20) (pickI L (3 * k + 1) 48 - 20) (madeP (getI L (3 * k + 2))) else madeK L k
def madeL (L : List Int) : List TA := madeK L 40
theorem madeK_stop (L : List Int) (k : Nat) (h : ¬ 3 * k + 2 < L.length) : ∀ j, madeK L (k + j) = madeK L k
  | 0 => rfl
  | j + 1 => by
    show (if 3 * (k + j) + 2 < L.length then _ else _) = _
    rw [if_neg (by omega)]
    exact madeK_stop L k h j
theorem madeK_valid (L : List Int) : ∀ k, validL (madeK L k) = true
  | 0 => validL_nil
  | k + 1 => by
    show validL (if _ then _ else _) = true
    split
    · exact putR_valid _ _ _ _
    · exact madeK_valid L k
theorem madeK_tok (L : List Int) : ∀ k, TokL (madeK L k)
  | 0 => TokL.nil
  | k + 1 => by
    show TokL (if _ then _ else _)
    split
    · exact setR_tok (madeK_tok L k) (madeP_ok _)
    · exact madeK_tok L k
theorem madeK_len (L : List Int) (k : Nat) : (madeK L k).length ≤ 1024 := (validL_iff.1 (madeK_valid L k)).1
theorem run_load_ras {w : World} {b j : Nat} {v : Value} (h : w.cell? ⟨b, j, none⟩ = some v) : (Instr.loadAt 30 (.pointer (some ⟨b, j, none⟩))).run Try.prog w = .ok (.agg #[v]) w := by
  simp [go_sem, h]
set_option maxHeartbeats 2000000 in
theorem R_Made8 (v : Value) (L : List Int) (w : World) (h : RSE inE v L w) (hn : L.length ≤ 17592186044416) : Calls Try.prog 18 #[v] w fun e w' => ∃ v', e = .returned (.agg #[v']) ∧ RS v' (madeL L) w' ∧ Below w.heap.size w w' := by
  have B := Below.refl w.heap.size w
  have HL := Lib.hid h
  obtain ⟨a, c, rfl, hc⟩ := h.len
  clear h
  go_enter Try.func18, Try.ntmps18
  go_wp2_with (first | (refine wpList_storeB (t := 30) rfl _ _ rfl _ rfl _ rfl r3 (by kernel_rfl) rfl (by simp [Value.oneCell']) ?_; clear r3; intro wn ht hcn hzn; have hsz := B.size; replace hzn := Nat.le_of_eq hzn.symm; replace B := Chg.below B hcn (by omega) B.size; (try replace r2 := r2.of_eq (hcn.block _ r2.lt (by omega))); (try replace q5 := q5.of_eq (hcn.block _ q5.lt (by omega))); (try replace g6 := g6.of_eq (hcn.block _ g6.lt (by omega))); have r3 := ht; clear ht; simp only [Act.put, putS]) | (have _ := r2; refine wpList_allocBk (t := 30) rfl _ (run_alloc_R _ _ rfl) ?_; intro b_r3 wn hle hge ht hbn hzn; have hsz := B.size; replace B := B.trans (hbn.mono (by omega)); have hln := Nat.lt_of_lt_of_eq (Nat.lt_succ_self _) hzn.symm; clear hzn; (try first | (have hlt := r2.lt; replace r2 := r2.of_eq (hbn.block _ (by omega))) | replace r2 := r2.below (hbn.mono hle)); (try first | (have hlt := r3.lt; replace r3 := r3.of_eq (hbn.block _ (by omega))) | replace r3 := r3.below (hbn.mono hle)); (try first | (have hlt := q5.lt; replace q5 := q5.of_eq (hbn.block _ (by omega))) | replace q5 := q5.below (hbn.mono hle)); (try first | (have hlt := g6.lt; replace g6 := g6.of_eq (hbn.block _ (by omega))) | replace g6 := g6.below (hbn.mono hle)); have r3 := ht; clear ht; simp only [Act.put, putS]) | (refine wpList_allocBk (t := 30) rfl _ (run_alloc_R _ _ rfl) ?_; intro b_r2 wn hle hge ht hbn hzn; have hsz := B.size; replace B := B.trans (hbn.mono (by omega)); have hln := Nat.lt_of_lt_of_eq (Nat.lt_succ_self _) hzn.symm; clear hzn; (try first | (have hlt := r2.lt; replace r2 := r2.of_eq (hbn.block _ (by omega))) | replace r2 := r2.below (hbn.mono hle)); (try first | (have hlt := r3.lt; replace r3 := r3.of_eq (hbn.block _ (by omega))) | replace r3 := r3.below (hbn.mono hle)); (try first | (have hlt := q5.lt; replace q5 := q5.of_eq (hbn.block _ (by omega))) | replace q5 := q5.below (hbn.mono hle)); (try first | (have hlt := g6.lt; replace g6 := g6.of_eq (hbn.block _ (by omega))) | replace g6 := g6.below (hbn.mono hle)); have r2 := ht; clear ht; simp only [Act.put, putS]) | fail)
  go_loopw [4, 5, 6] (fun i _ _ wr => ∃ (k n : Nat) (a0 : Option Addr) (c0 : Nat), n = 3 * k ∧ k ≤ 40 ∧ i = .int .i64 n ∧ Below w.heap.size w wr ∧ AtB 30 wr b_r2 #[.slice none 0 0] ∧ AtB 30 wr b_r3 #[.slice a0 (madeK L k).length c0] ∧ RS (.slice a0 (madeK L k).length c0) (madeK L k) wr) (fun i _ _ _ => (120 - intOf i).toNat)
  case atStart => exact ⟨0, 0, none, 0, rfl, by omega, rfl, B, r2, r3, RS.nil _⟩
  case round =>
    clear B r2 r3
    obtain ⟨k, n, a0, c0, hn3, hk, rfl, B, r2, r3, rs⟩ := hrel
    have hml := madeK_len L k
    by_cases hq : n + 2 < L.length ∧ n < 120
    · obtain ⟨hix, hlt⟩ := hq
      have E := Lib.hid (show madeK L (k + 1) = setR (madeK L k) (pickI L n 48 - 20) (pickI L (n + 1) 48 - 20) (madeP (getI L (n + 2))) from by
        show (if _ then _ else _) = _
        rw [if_pos (by omega), hn3])
      have hk39 : k < 40 := by omega
      have HN := Lib.hid hn3
      clear hn3
      have d1 : decide ((n : Int) + 2 < (L.length : Int)) = true := decide_eq_true (by omega)
      have d2 : decide ((n : Int) < 120) = true := decide_eq_true (by omega)
      obtain ⟨g, o, rfl, rcw⟩ := HL.out.at (by omega)
      have rc := rcw.of_eq (B.block _ rcw.lt)
      have hb1 := pickI_bd L n
      have hb2 := pickI_bd L (n + 1)
      obtain ⟨x, hx⟩ : ∃ x, pickI L n 48 - 20 = x := ⟨_, rfl⟩
      obtain ⟨y, hy⟩ : ∃ y, pickI L (n + 1) 48 - 20 = y := ⟨_, rfl⟩
      have wx : (Lit.int .i64 x).wf = true := wf_mk (by omega) (by omega)
      have wy : (Lit.int .i64 y).wf = true := wf_mk (by omega) (by omega)
      rw [hx, hy] at E
      go_upto_region 6 with (first | (refine wpList_storePx rfl _ _ rfl _ rfl (_) rfl q5 ?_; have q5o := q5; clear q5; intro wn ht hcn hzn; replace rs := rs.chg (show AtB 37 _ b_q5 (pxA _) from q5o) (by simp [pxA]) hcn; have hsz := B.size; replace hzn := Nat.le_of_eq hzn.symm; replace B := Chg.below B hcn (by omega) B.size; (try replace r2 := r2.of_eq (hcn.block _ r2.lt (by omega))); (try replace r3 := r3.of_eq (hcn.block _ r3.lt (by omega))); (try replace g6 := g6.of_eq (hcn.block _ g6.lt (by omega))); have q5 := ht; clear ht; simp only [Act.put, putS]) | (have _ := r3; refine wpList_allocPx' rfl rfl ?_; intro b_q5 wn hle hge ht hbn hzn; have hsz := B.size; replace B := B.trans (hbn.mono (by omega)); have hln := Nat.lt_of_lt_of_eq (Nat.lt_succ_self _) hzn.symm; clear hzn; (try first | (have hlt := r2.lt; replace r2 := r2.of_eq (hbn.block _ (by omega))) | replace r2 := r2.below (hbn.mono hle)); (try first | (have hlt := r3.lt; replace r3 := r3.of_eq (hbn.block _ (by omega))) | replace r3 := r3.below (hbn.mono hle)); (try first | (have hlt := q5.lt; replace q5 := q5.of_eq (hbn.block _ (by omega))) | replace q5 := q5.below (hbn.mono hle)); (try first | (have hlt := g6.lt; replace g6 := g6.of_eq (hbn.block _ (by omega))) | replace g6 := g6.below (hbn.mono hle)); (try first | (have hlt := rs.lt; replace rs := rs.of_eq (hbn.block _ (by omega))) | replace rs := rs.below (hbn.mono hle)); have q5 := ht; clear ht; simp only [Act.put, putS]) | (go_at_call 24; refine (R_Made4 _ _).mono ?_; rintro e wn ⟨rfl, hbn⟩; have hsz := B.size; have hzn := hbn.size; replace B := B.trans (hbn.mono B.size); (try first | replace r2 := r2.of_eq (hbn.block _ r2.lt) | replace r2 := r2.below hbn); (try first | replace r3 := r3.of_eq (hbn.block _ r3.lt) | replace r3 := r3.below hbn); (try first | replace q5 := q5.of_eq (hbn.block _ q5.lt) | replace q5 := q5.below hbn); (try first | replace g6 := g6.of_eq (hbn.block _ g6.lt) | replace g6 := g6.below hbn); (try first | replace rs := rs.of_eq (hbn.block _ rs.lt) | replace rs := rs.below hbn)) | (refine wpList_loadAny (t := 3) rfl _ rfl _ _ _ rfl (run_load_int (rci_int rc (getD_some hix))) (by first | rfl | omega) ?_; simp only [Act.put, putS]) | fail)
      have q1 := q5.lt
      have q2 := r3.lt
      go_cut [6] from 25 to 36 (fun s wx => ∃ (b_g6 : Nat) (a1 : Option Addr) (c1 : Nat) (e1 : Int), s = .pointer (some ⟨b_g6, 0, none⟩) ∧ AtB 50 wx b_g6 #[.slice a1 (madeK L (k + 1)).length c1, .int .i64 e1] ∧ RS (.slice a1 (madeK L (k + 1)).length c1) (madeK L (k + 1)) wx ∧ Below w.heap.size w wx ∧ AtB 30 wx b_r2 #[.slice none 0 0] ∧ AtB 30 wx b_r3 #[.slice a0 (madeK L k).length c0])
      case first =>
        try have r2B := r2
        try have r3B := r3
        try have q5B := q5
        try have g6B := g6
        try have rsB := rs
        refine wp_region_X0 13 #[false, false, false, false, false, false, false, false, false, false, false, false, false, false] (by kernel_rfl) (by kernel_rfl) ?_
        intro wn hbn
        have hX := hbn
        have hsz := B.size
        have hzn := hbn.size
        replace B := B.trans (hbn.mono B.size)
        try first | replace r2 := r2.of_eq (hbn.block _ r2.lt) | replace r2 := r2.below hbn
        try first | replace r3 := r3.of_eq (hbn.block _ r3.lt) | replace r3 := r3.below hbn
        try first | replace q5 := q5.of_eq (hbn.block _ q5.lt) | replace q5 := q5.below hbn
        try first | replace g6 := g6.of_eq (hbn.block _ g6.lt) | replace g6 := g6.below hbn
        try first | replace rs := rs.of_eq (hbn.block _ rs.lt) | replace rs := rs.below hbn
        simp only [List.length_cons, List.length_nil, Nat.reduceAdd]
        refine anyX_take 0 rfl (by kernel_rfl) ⟨_, ov_of hX⟩ ?_
        intro K hK
        try simp only [List.getElem_toArray, List.getElem_cons_zero, List.getElem_cons_succ]
        (first | (refine quiet_loadAny (t := 30) rfl _ _ _ rfl (fun w hw => run_load_B (ov_B r3B w hw) Try.isAgg30 (by kernel_rfl)) (by rfl) ?_; simp only [Act.put, putS]; go_big_quiet_on) | (refine quiet_loadPx rfl _ rfl (ov_px q5B) ?_; simp only [Act.put, putS]; go_big_quiet_on) | (go_big_quiet_op; go_big_quiet_on))
        simp only [Act.put, putS]
        refine anyX_take 1 rfl (by kernel_rfl) ⟨_, ov_of hX⟩ ?_
        intro K hK
        try simp only [List.getElem_toArray, List.getElem_cons_zero, List.getElem_cons_succ]
        (first | (refine quiet_loadAny (t := 30) rfl _ _ _ rfl (fun w hw => run_load_B (ov_B r3B w hw) Try.isAgg30 (by kernel_rfl)) (by rfl) ?_; simp only [Act.put, putS]; go_big_quiet_on) | (refine quiet_loadPx rfl _ rfl (ov_px q5B) ?_; simp only [Act.put, putS]; go_big_quiet_on) | (go_big_quiet_op; go_big_quiet_on))
        simp only [Act.put, putS]
        refine anyX_take 2 rfl (by kernel_rfl) ⟨_, ov_of hX⟩ ?_
        intro K hK
        try simp only [List.getElem_toArray, List.getElem_cons_zero, List.getElem_cons_succ]
        (first | (refine quiet_loadAny (t := 30) rfl _ _ _ rfl (fun w hw => run_load_B (ov_B r3B w hw) Try.isAgg30 (by kernel_rfl)) (by rfl) ?_; simp only [Act.put, putS]; go_big_quiet_on) | (refine quiet_loadPx rfl _ rfl (ov_px q5B) ?_; simp only [Act.put, putS]; go_big_quiet_on) | (go_big_quiet_op; go_big_quiet_on))
        simp only [Act.put, putS]
        refine anyX_take 5 rfl (by kernel_rfl) ⟨_, ov_of hX⟩ ?_
        intro K hK
        try simp only [List.getElem_toArray, List.getElem_cons_zero, List.getElem_cons_succ]
        (first | (refine quiet_loadAny (t := 30) rfl _ _ _ rfl (fun w hw => run_load_B (ov_B r3B w hw) Try.isAgg30 (by kernel_rfl)) (by rfl) ?_; simp only [Act.put, putS]; go_big_quiet_on) | (refine quiet_loadPx rfl _ rfl (ov_px q5B) ?_; simp only [Act.put, putS]; go_big_quiet_on) | (go_big_quiet_op; go_big_quiet_on))
        simp only [Act.put, putS]
        refine anyX_take 6 rfl (by kernel_rfl) ⟨_, ov_of hX⟩ ?_
        intro K hK
        try simp only [List.getElem_toArray, List.getElem_cons_zero, List.getElem_cons_succ]
        (first | (refine quiet_loadAny (t := 30) rfl _ _ _ rfl (fun w hw => run_load_B (ov_B r3B w hw) Try.isAgg30 (by kernel_rfl)) (by rfl) ?_; simp only [Act.put, putS]; go_big_quiet_on) | (refine quiet_loadPx rfl _ rfl (ov_px q5B) ?_; simp only [Act.put, putS]; go_big_quiet_on) | (go_big_quiet_op; go_big_quiet_on))
        simp only [Act.put, putS]
        refine anyX_take 7 rfl (by kernel_rfl) ⟨_, ov_of hX⟩ ?_
        intro K hK
        try simp only [List.getElem_toArray, List.getElem_cons_zero, List.getElem_cons_succ]
        (first | (refine quiet_loadAny (t := 30) rfl _ _ _ rfl (fun w hw => run_load_B (ov_B r3B w hw) Try.isAgg30 (by kernel_rfl)) (by rfl) ?_; simp only [Act.put, putS]; go_big_quiet_on) | (refine quiet_loadPx rfl _ rfl (ov_px q5B) ?_; simp only [Act.put, putS]; go_big_quiet_on) | (go_big_quiet_op; go_big_quiet_on))
        simp only [Act.put, putS]
        refine anyX_take 10 rfl (by kernel_rfl) ⟨_, ov_of hX⟩ ?_
        intro K hK
        try simp only [List.getElem_toArray, List.getElem_cons_zero, List.getElem_cons_succ]
        (first | (refine quiet_loadAny (t := 30) rfl _ _ _ rfl (fun w hw => run_load_B (ov_B r3B w hw) Try.isAgg30 (by kernel_rfl)) (by rfl) ?_; simp only [Act.put, putS]; go_big_quiet_on) | (refine quiet_loadPx rfl _ rfl (ov_px q5B) ?_; simp only [Act.put, putS]; go_big_quiet_on) | (go_big_quiet_op; go_big_quiet_on))
        simp only [Act.put, putS]
        refine anyX_two 3 12 rfl rfl (by kernel_rfl) rfl rfl (fun K hK => ?_) (fun K hK => ?_)
        · skip
          try simp only [List.getElem_toArray, List.getElem_cons_zero, List.getElem_cons_succ]
          go_simp
          go_at_call 61
          refine (R_pickB _ L n _ rfl _ (HL.out.below B) hn).mono ?_
          rintro e wn ⟨rfl, hbn⟩
          have hsz := B.size
          have hzn := hbn.size
          have hsx := hX.size
          replace B := B.trans (hbn.mono B.size)
          replace hX := hX.trans (hbn.mono hX.size)
          try first | replace r2 := r2.of_eq (hbn.block _ r2.lt) | replace r2 := r2.below hbn
          try first | replace r3 := r3.of_eq (hbn.block _ r3.lt) | replace r3 := r3.below hbn
          try first | replace q5 := q5.of_eq (hbn.block _ q5.lt) | replace q5 := q5.below hbn
          try first | replace g6 := g6.of_eq (hbn.block _ g6.lt) | replace g6 := g6.below hbn
          try first | replace rs := rs.of_eq (hbn.block _ rs.lt) | replace rs := rs.below hbn
          refine hK _ _ ⟨fun _ => ⟨_, ov_of hX⟩, ?_⟩
          clear hK K
          try simp only [List.getElem_toArray, List.getElem_cons_zero, List.getElem_cons_succ]
          simp only [Act.put, putS]
          refine anyX_take 4 rfl (by kernel_rfl) ⟨_, ov_of hX⟩ ?_
          intro K hK
          try simp only [List.getElem_toArray, List.getElem_cons_zero, List.getElem_cons_succ]
          (first | (refine quiet_loadAny (t := 30) rfl _ _ _ rfl (fun w hw => run_load_B (ov_B r3B w hw) Try.isAgg30 (by kernel_rfl)) (by rfl) ?_; simp only [Act.put, putS]; go_big_quiet_on) | (refine quiet_loadPx rfl _ rfl (ov_px q5B) ?_; simp only [Act.put, putS]; go_big_quiet_on) | (go_big_quiet_op; go_big_quiet_on))
          simp only [Act.put, putS]
          refine anyX_two 8 12 rfl rfl (by kernel_rfl) rfl rfl (fun K hK => ?_) (fun K hK => ?_)
          · skip
            try simp only [List.getElem_toArray, List.getElem_cons_zero, List.getElem_cons_succ]
            go_simp
            go_at_call 61
            refine (R_pickB _ L (n + 1) _ (by omega) _ (HL.out.below B) hn).mono ?_
            rintro e wn ⟨rfl, hbn⟩
            have hsz := B.size
            have hzn := hbn.size
            have hsx := hX.size
            replace B := B.trans (hbn.mono B.size)
            replace hX := hX.trans (hbn.mono hX.size)
            try first | replace r2 := r2.of_eq (hbn.block _ r2.lt) | replace r2 := r2.below hbn
            try first | replace r3 := r3.of_eq (hbn.block _ r3.lt) | replace r3 := r3.below hbn
            try first | replace q5 := q5.of_eq (hbn.block _ q5.lt) | replace q5 := q5.below hbn
            try first | replace g6 := g6.of_eq (hbn.block _ g6.lt) | replace g6 := g6.below hbn
            try first | replace rs := rs.of_eq (hbn.block _ rs.lt) | replace rs := rs.below hbn
            refine hK _ _ ⟨fun _ => ⟨_, ov_of hX⟩, ?_⟩
            clear hK K
            try simp only [List.getElem_toArray, List.getElem_cons_zero, List.getElem_cons_succ]
            simp only [Act.put, putS]
            refine anyX_take 9 rfl (by kernel_rfl) ⟨_, ov_of hX⟩ ?_
            intro K hK
            try simp only [List.getElem_toArray, List.getElem_cons_zero, List.getElem_cons_succ]
            (first | (refine quiet_loadAny (t := 30) rfl _ _ _ rfl (fun w hw => run_load_B (ov_B r3B w hw) Try.isAgg30 (by kernel_rfl)) (by rfl) ?_; simp only [Act.put, putS]; go_big_quiet_on) | (refine quiet_loadPx rfl _ rfl (ov_px q5B) ?_; simp only [Act.put, putS]; go_big_quiet_on) | (go_big_quiet_op; go_big_quiet_on))
            simp only [Act.put, putS]
            refine anyX_two 11 12 rfl rfl (by kernel_rfl) rfl rfl (fun K hK => ?_) (fun K hK => ?_)
            · skip
              try simp only [List.getElem_toArray, List.getElem_cons_zero, List.getElem_cons_succ]
              go_simp
              go_at_call 27
              refine (R_SetR _ (madeK L k) x y _ _ rs (madeK_tok L k) (by unfold maxLen; omega) wx wy (madeP_ok _)).mono ?_
              rintro e wn ⟨v1, rfl, rs1, hbn⟩
              obtain ⟨a1, c1, rfl, hc1⟩ := rs1.len
              have hsz := B.size
              have hzn := hbn.size
              have hsx := hX.size
              replace B := B.trans (hbn.mono B.size)
              replace hX := hX.trans (hbn.mono hX.size)
              try first | replace r2 := r2.of_eq (hbn.block _ r2.lt) | replace r2 := r2.below hbn
              try first | replace r3 := r3.of_eq (hbn.block _ r3.lt) | replace r3 := r3.below hbn
              try first | replace q5 := q5.of_eq (hbn.block _ q5.lt) | replace q5 := q5.below hbn
              try first | replace g6 := g6.of_eq (hbn.block _ g6.lt) | replace g6 := g6.below hbn
              refine hK _ _ ⟨fun _ => ⟨_, ov_of hX⟩, ?_⟩
              clear hK K
              try simp only [List.getElem_toArray, List.getElem_cons_zero, List.getElem_cons_succ]
              simp only [Act.put, putS]
              refine anyX_next 12 rfl (by kernel_rfl) rfl (fun K hK => ?_)
              try simp only [List.getElem_toArray, List.getElem_cons_zero, List.getElem_cons_succ]
              refine owp_allocBk (t := 50) _ (run_alloc_G _ _ rfl) ?_
              intro b_g6 wn hle hge ht hbn hzn
              have hsz := B.size
              have hsx := hX.size
              replace B := B.trans (hbn.mono (by omega))
              replace hX := hX.trans (hbn.mono (by omega))
              try first | (have hlt := r2.lt; replace r2 := r2.of_eq (hbn.block _ (by omega))) | replace r2 := r2.below (hbn.mono hle)
              try first | (have hlt := r3.lt; replace r3 := r3.of_eq (hbn.block _ (by omega))) | replace r3 := r3.below (hbn.mono hle)
              try first | (have hlt := q5.lt; replace q5 := q5.of_eq (hbn.block _ (by omega))) | replace q5 := q5.below (hbn.mono hle)
              try first | (have hlt := g6.lt; replace g6 := g6.of_eq (hbn.block _ (by omega))) | replace g6 := g6.below (hbn.mono hle)
              try first | (have hlt := rs.lt; replace rs := rs.of_eq (hbn.block _ (by omega))) | replace rs := rs.below (hbn.mono hle)
              try first | (have hlt := rs1.lt; replace rs1 := rs1.of_eq (hbn.block _ (by omega))) | replace rs1 := rs1.below (hbn.mono hle)
              have g6 := ht
              clear ht
              refine hK _ _ ⟨fun _ => ⟨_, ov_of hX⟩, ?_⟩
              clear hK K
              try simp only [List.getElem_toArray, List.getElem_cons_zero, List.getElem_cons_succ]
              simp only [Act.put, putS]
              refine anyX_seq (by kernel_rfl) (by kernel_rfl) ?_
              simp only [List.drop_succ_cons, List.drop_zero]
              go_wp2_with (first | (refine wpList_storeB (t := 50) rfl _ _ rfl _ rfl _ rfl g6 (by kernel_rfl) rfl (by simp [Value.oneCell']) ?_; have g6o := g6; clear g6; intro wn ht hcn hzn; replace rs1 := rs1.chg g6o (by simp) hcn; have hsz := B.size; replace hzn := Nat.le_of_eq hzn.symm; replace B := Chg.below B hcn (by omega) B.size; (try replace r2 := r2.of_eq (hcn.block _ r2.lt (by omega))); (try replace r3 := r3.of_eq (hcn.block _ r3.lt (by omega))); (try replace q5 := q5.of_eq (hcn.block _ q5.lt (by omega))); have g6 := ht; clear ht; simp only [Act.put, putS]) | fail)
              refine NoPan.normal ?_
              go_wp2_with fail
              go_meet
              exact ⟨b_g6, a1, c1, _, rfl, by rw [E.out]; exact g6, by rw [E.out]; exact rs1, B, r2, r3⟩
            · skip
              try simp only [List.getElem_toArray, List.getElem_cons_zero, List.getElem_cons_succ]
              refine owp_allocBk (t := 50) _ (run_alloc_G _ _ rfl) ?_
              intro b_g6 wn hle hge ht hbn hzn
              have hsz := B.size
              have hsx := hX.size
              replace B := B.trans (hbn.mono (by omega))
              replace hX := hX.trans (hbn.mono (by omega))
              try first | (have hlt := r2.lt; replace r2 := r2.of_eq (hbn.block _ (by omega))) | replace r2 := r2.below (hbn.mono hle)
              try first | (have hlt := r3.lt; replace r3 := r3.of_eq (hbn.block _ (by omega))) | replace r3 := r3.below (hbn.mono hle)
              try first | (have hlt := q5.lt; replace q5 := q5.of_eq (hbn.block _ (by omega))) | replace q5 := q5.below (hbn.mono hle)
              try first | (have hlt := g6.lt; replace g6 := g6.of_eq (hbn.block _ (by omega))) | replace g6 := g6.below (hbn.mono hle)
              try first | (have hlt := rs.lt; replace rs := rs.of_eq (hbn.block _ (by omega))) | replace rs := rs.below (hbn.mono hle)
              try first | (have hlt := rs1.lt; replace rs1 := rs1.of_eq (hbn.block _ (by omega))) | replace rs1 := rs1.below (hbn.mono hle)
              have g6 := ht
              clear ht
              refine hK _ _ ⟨fun _ => ⟨_, ov_of hX⟩, ?_⟩
              clear hK K
              try simp only [List.getElem_toArray, List.getElem_cons_zero, List.getElem_cons_succ]
              simp only [Act.put, putS]
              refine anyX_next 11 rfl (by kernel_rfl) rfl (fun K hK => ?_)
              try simp only [List.getElem_toArray, List.getElem_cons_zero, List.getElem_cons_succ]
              go_simp
              go_at_call 27
              refine (R_SetR _ (madeK L k) x y _ _ rs (madeK_tok L k) (by unfold maxLen; omega) wx wy (madeP_ok _)).mono ?_
              rintro e wn ⟨v1, rfl, rs1, hbn⟩
              obtain ⟨a1, c1, rfl, hc1⟩ := rs1.len
              have hsz := B.size
              have hzn := hbn.size
              have hsx := hX.size
              replace B := B.trans (hbn.mono B.size)
              replace hX := hX.trans (hbn.mono hX.size)
              try first | replace r2 := r2.of_eq (hbn.block _ r2.lt) | replace r2 := r2.below hbn
              try first | replace r3 := r3.of_eq (hbn.block _ r3.lt) | replace r3 := r3.below hbn
              try first | replace q5 := q5.of_eq (hbn.block _ q5.lt) | replace q5 := q5.below hbn
              try first | replace g6 := g6.of_eq (hbn.block _ g6.lt) | replace g6 := g6.below hbn
              refine hK _ _ ⟨fun _ => ⟨_, ov_of hX⟩, ?_⟩
              clear hK K
              try simp only [List.getElem_toArray, List.getElem_cons_zero, List.getElem_cons_succ]
              simp only [Act.put, putS]
              refine anyX_seq (by kernel_rfl) (by kernel_rfl) ?_
              simp only [List.drop_succ_cons, List.drop_zero]
              go_wp2_with (first | (refine wpList_storeB (t := 50) rfl _ _ rfl _ rfl _ rfl g6 (by kernel_rfl) rfl (by simp [Value.oneCell']) ?_; have g6o := g6; clear g6; intro wn ht hcn hzn; replace rs1 := rs1.chg g6o (by simp) hcn; have hsz := B.size; replace hzn := Nat.le_of_eq hzn.symm; replace B := Chg.below B hcn (by omega) B.size; (try replace r2 := r2.of_eq (hcn.block _ r2.lt (by omega))); (try replace r3 := r3.of_eq (hcn.block _ r3.lt (by omega))); (try replace q5 := q5.of_eq (hcn.block _ q5.lt (by omega))); have g6 := ht; clear ht; simp only [Act.put, putS]) | fail)
              refine NoPan.normal ?_
              go_wp2_with fail
              go_meet
              exact ⟨b_g6, a1, c1, _, rfl, by rw [E.out]; exact g6, by rw [E.out]; exact rs1, B, r2, r3⟩
          · skip
            try simp only [List.getElem_toArray, List.getElem_cons_zero, List.getElem_cons_succ]
            refine owp_allocBk (t := 50) _ (run_alloc_G _ _ rfl) ?_
            intro b_g6 wn hle hge ht hbn hzn
            have hsz := B.size
            have hsx := hX.size
            replace B := B.trans (hbn.mono (by omega))
            replace hX := hX.trans (hbn.mono (by omega))
            try first | (have hlt := r2.lt; replace r2 := r2.of_eq (hbn.block _ (by omega))) | replace r2 := r2.below (hbn.mono hle)
            try first | (have hlt := r3.lt; replace r3 := r3.of_eq (hbn.block _ (by omega))) | replace r3 := r3.below (hbn.mono hle)
            try first | (have hlt := q5.lt; replace q5 := q5.of_eq (hbn.block _ (by omega))) | replace q5 := q5.below (hbn.mono hle)
            try first | (have hlt := g6.lt; replace g6 := g6.of_eq (hbn.block _ (by omega))) | replace g6 := g6.below (hbn.mono hle)
            try first | (have hlt := rs.lt; replace rs := rs.of_eq (hbn.block _ (by omega))) | replace rs := rs.below (hbn.mono hle)
            try first | (have hlt := rs1.lt; replace rs1 := rs1.of_eq (hbn.block _ (by omega))) | replace rs1 := rs1.below (hbn.mono hle)
            have g6 := ht
            clear ht
            refine hK _ _ ⟨fun _ => ⟨_, ov_of hX⟩, ?_⟩
            clear hK K
            try simp only [List.getElem_toArray, List.getElem_cons_zero, List.getElem_cons_succ]
            simp only [Act.put, putS]
            refine anyX_next 8 rfl (by kernel_rfl) rfl (fun K hK => ?_)
            try simp only [List.getElem_toArray, List.getElem_cons_zero, List.getElem_cons_succ]
            go_simp
            go_at_call 61
            refine (R_pickB _ L (n + 1) _ (by omega) _ (HL.out.below B) hn).mono ?_
            rintro e wn ⟨rfl, hbn⟩
            have hsz := B.size
            have hzn := hbn.size
            have hsx := hX.size
            replace B := B.trans (hbn.mono B.size)
            replace hX := hX.trans (hbn.mono hX.size)
            try first | replace r2 := r2.of_eq (hbn.block _ r2.lt) | replace r2 := r2.below hbn
            try first | replace r3 := r3.of_eq (hbn.block _ r3.lt) | replace r3 := r3.below hbn
            try first | replace q5 := q5.of_eq (hbn.block _ q5.lt) | replace q5 := q5.below hbn
            try first | replace g6 := g6.of_eq (hbn.block _ g6.lt) | replace g6 := g6.below hbn
            try first | replace rs := rs.of_eq (hbn.block _ rs.lt) | replace rs := rs.below hbn
            refine hK _ _ ⟨fun _ => ⟨_, ov_of hX⟩, ?_⟩
            clear hK K
            try simp only [List.getElem_toArray, List.getElem_cons_zero, List.getElem_cons_succ]
            simp only [Act.put, putS]
            refine anyX_take 9 rfl (by kernel_rfl) ⟨_, ov_of hX⟩ ?_
            intro K hK
            try simp only [List.getElem_toArray, List.getElem_cons_zero, List.getElem_cons_succ]
            (first | (refine quiet_loadAny (t := 30) rfl _ _ _ rfl (fun w hw => run_load_B (ov_B r3B w hw) Try.isAgg30 (by kernel_rfl)) (by rfl) ?_; simp only [Act.put, putS]; go_big_quiet_on) | (refine quiet_loadPx rfl _ rfl (ov_px q5B) ?_; simp only [Act.put, putS]; go_big_quiet_on) | (go_big_quiet_op; go_big_quiet_on))
            simp only [Act.put, putS]
            refine anyX_next 11 rfl (by kernel_rfl) rfl (fun K hK => ?_)
            try simp only [List.getElem_toArray, List.getElem_cons_zero, List.getElem_cons_succ]
            go_simp
            go_at_call 27
            refine (R_SetR _ (madeK L k) x y _ _ rs (madeK_tok L k) (by unfold maxLen; omega) wx wy (madeP_ok _)).mono ?_
            rintro e wn ⟨v1, rfl, rs1, hbn⟩
            obtain ⟨a1, c1, rfl, hc1⟩ := rs1.len
            have hsz := B.size
            have hzn := hbn.size
            have hsx := hX.size
            replace B := B.trans (hbn.mono B.size)
            replace hX := hX.trans (hbn.mono hX.size)
            try first | replace r2 := r2.of_eq (hbn.block _ r2.lt) | replace r2 := r2.below hbn
            try first | replace r3 := r3.of_eq (hbn.block _ r3.lt) | replace r3 := r3.below hbn
            try first | replace q5 := q5.of_eq (hbn.block _ q5.lt) | replace q5 := q5.below hbn
            try first | replace g6 := g6.of_eq (hbn.block _ g6.lt) | replace g6 := g6.below hbn
            refine hK _ _ ⟨fun _ => ⟨_, ov_of hX⟩, ?_⟩
            clear hK K
            try simp only [List.getElem_toArray, List.getElem_cons_zero, List.getElem_cons_succ]
            simp only [Act.put, putS]
            refine anyX_seq (by kernel_rfl) (by kernel_rfl) ?_
            simp only [List.drop_succ_cons, List.drop_zero]
            go_wp2_with (first | (refine wpList_storeB (t := 50) rfl _ _ rfl _ rfl _ rfl g6 (by kernel_rfl) rfl (by simp [Value.oneCell']) ?_; have g6o := g6; clear g6; intro wn ht hcn hzn; replace rs1 := rs1.chg g6o (by simp) hcn; have hsz := B.size; replace hzn := Nat.le_of_eq hzn.symm; replace B := Chg.below B hcn (by omega) B.size; (try replace r2 := r2.of_eq (hcn.block _ r2.lt (by omega))); (try replace r3 := r3.of_eq (hcn.block _ r3.lt (by omega))); (try replace q5 := q5.of_eq (hcn.block _ q5.lt (by omega))); have g6 := ht; clear ht; simp only [Act.put, putS]) | fail)
            refine NoPan.normal ?_
            go_wp2_with fail
            go_meet
            exact ⟨b_g6, a1, c1, _, rfl, by rw [E.out]; exact g6, by rw [E.out]; exact rs1, B, r2, r3⟩
        · skip
          try simp only [List.getElem_toArray, List.getElem_cons_zero, List.getElem_cons_succ]
          refine owp_allocBk (t := 50) _ (run_alloc_G _ _ rfl) ?_
          intro b_g6 wn hle hge ht hbn hzn
          have hsz := B.size
          have hsx := hX.size
          replace B := B.trans (hbn.mono (by omega))
          replace hX := hX.trans (hbn.mono (by omega))
          try first | (have hlt := r2.lt; replace r2 := r2.of_eq (hbn.block _ (by omega))) | replace r2 := r2.below (hbn.mono hle)
          try first | (have hlt := r3.lt; replace r3 := r3.of_eq (hbn.block _ (by omega))) | replace r3 := r3.below (hbn.mono hle)
          try first | (have hlt := q5.lt; replace q5 := q5.of_eq (hbn.block _ (by omega))) | replace q5 := q5.below (hbn.mono hle)
          try first | (have hlt := g6.lt; replace g6 := g6.of_eq (hbn.block _ (by omega))) | replace g6 := g6.below (hbn.mono hle)
          try first | (have hlt := rs.lt; replace rs := rs.of_eq (hbn.block _ (by omega))) | replace rs := rs.below (hbn.mono hle)
          try first | (have hlt := rs1.lt; replace rs1 := rs1.of_eq (hbn.block _ (by omega))) | replace rs1 := rs1.below (hbn.mono hle)
          have g6 := ht
          clear ht
          refine hK _ _ ⟨fun _ => ⟨_, ov_of hX⟩, ?_⟩
          clear hK K
          try simp only [List.getElem_toArray, List.getElem_cons_zero, List.getElem_cons_succ]
          simp only [Act.put, putS]
          refine anyX_next 3 rfl (by kernel_rfl) rfl (fun K hK => ?_)
          try simp only [List.getElem_toArray, List.getElem_cons_zero, List.getElem_cons_succ]
          go_simp
          go_at_call 61
          refine (R_pickB _ L n _ rfl _ (HL.out.below B) hn).mono ?_
          rintro e wn ⟨rfl, hbn⟩
          have hsz := B.size
          have hzn := hbn.size
          have hsx := hX.size
          replace B := B.trans (hbn.mono B.size)
          replace hX := hX.trans (hbn.mono hX.size)
          try first | replace r2 := r2.of_eq (hbn.block _ r2.lt) | replace r2 := r2.below hbn
          try first | replace r3 := r3.of_eq (hbn.block _ r3.lt) | replace r3 := r3.below hbn
          try first | replace q5 := q5.of_eq (hbn.block _ q5.lt) | replace q5 := q5.below hbn
          try first | replace g6 := g6.of_eq (hbn.block _ g6.lt) | replace g6 := g6.below hbn
          try first | replace rs := rs.of_eq (hbn.block _ rs.lt) | replace rs := rs.below hbn
          refine hK _ _ ⟨fun _ => ⟨_, ov_of hX⟩, ?_⟩
          clear hK K
          try simp only [List.getElem_toArray, List.getElem_cons_zero, List.getElem_cons_succ]
          simp only [Act.put, putS]
          refine anyX_take 4 rfl (by kernel_rfl) ⟨_, ov_of hX⟩ ?_
          intro K hK
          try simp only [List.getElem_toArray, List.getElem_cons_zero, List.getElem_cons_succ]
          (first | (refine quiet_loadAny (t := 30) rfl _ _ _ rfl (fun w hw => run_load_B (ov_B r3B w hw) Try.isAgg30 (by kernel_rfl)) (by rfl) ?_; simp only [Act.put, putS]; go_big_quiet_on) | (refine quiet_loadPx rfl _ rfl (ov_px q5B) ?_; simp only [Act.put, putS]; go_big_quiet_on) | (go_big_quiet_op; go_big_quiet_on))
          simp only [Act.put, putS]
          refine anyX_next 8 rfl (by kernel_rfl) rfl (fun K hK => ?_)
          try simp only [List.getElem_toArray, List.getElem_cons_zero, List.getElem_cons_succ]
          go_simp
          go_at_call 61
          refine (R_pickB _ L (n + 1) _ (by omega) _ (HL.out.below B) hn).mono ?_
          rintro e wn ⟨rfl, hbn⟩
          have hsz := B.size
          have hzn := hbn.size
          have hsx := hX.size
          replace B := B.trans (hbn.mono B.size)
          replace hX := hX.trans (hbn.mono hX.size)
          try first | replace r2 := r2.of_eq (hbn.block _ r2.lt) | replace r2 := r2.below hbn
          try first | replace r3 := r3.of_eq (hbn.block _ r3.lt) | replace r3 := r3.below hbn
          try first | replace q5 := q5.of_eq (hbn.block _ q5.lt) | replace q5 := q5.below hbn
          try first | replace g6 := g6.of_eq (hbn.block _ g6.lt) | replace g6 := g6.below hbn
          try first | replace rs := rs.of_eq (hbn.block _ rs.lt) | replace rs := rs.below hbn
          refine hK _ _ ⟨fun _ => ⟨_, ov_of hX⟩, ?_⟩
          clear hK K
          try simp only [List.getElem_toArray, List.getElem_cons_zero, List.getElem_cons_succ]
          simp only [Act.put, putS]
          refine anyX_take 9 rfl (by kernel_rfl) ⟨_, ov_of hX⟩ ?_
          intro K hK
          try simp only [List.getElem_toArray, List.getElem_cons_zero, List.getElem_cons_succ]
          (first | (refine quiet_loadAny (t := 30) rfl _ _ _ rfl (fun w hw => run_load_B (ov_B r3B w hw) Try.isAgg30 (by kernel_rfl)) (by rfl) ?_; simp only [Act.put, putS]; go_big_quiet_on) | (refine quiet_loadPx rfl _ rfl (ov_px q5B) ?_; simp only [Act.put, putS]; go_big_quiet_on) | (go_big_quiet_op; go_big_quiet_on))
          simp only [Act.put, putS]
          refine anyX_next 11 rfl (by kernel_rfl) rfl (fun K hK => ?_)
          try simp only [List.getElem_toArray, List.getElem_cons_zero, List.getElem_cons_succ]
          go_simp
          go_at_call 27
          refine (R_SetR _ (madeK L k) x y _ _ rs (madeK_tok L k) (by unfold maxLen; omega) wx wy (madeP_ok _)).mono ?_
          rintro e wn ⟨v1, rfl, rs1, hbn⟩
          obtain ⟨a1, c1, rfl, hc1⟩ := rs1.len
          have hsz := B.size
          have hzn := hbn.size
          have hsx := hX.size
          replace B := B.trans (hbn.mono B.size)
          replace hX := hX.trans (hbn.mono hX.size)
          try first | replace r2 := r2.of_eq (hbn.block _ r2.lt) | replace r2 := r2.below hbn
          try first | replace r3 := r3.of_eq (hbn.block _ r3.lt) | replace r3 := r3.below hbn
          try first | replace q5 := q5.of_eq (hbn.block _ q5.lt) | replace q5 := q5.below hbn
          try first | replace g6 := g6.of_eq (hbn.block _ g6.lt) | replace g6 := g6.below hbn
          refine hK _ _ ⟨fun _ => ⟨_, ov_of hX⟩, ?_⟩
          clear hK K
          try simp only [List.getElem_toArray, List.getElem_cons_zero, List.getElem_cons_succ]
          simp only [Act.put, putS]
          refine anyX_seq (by kernel_rfl) (by kernel_rfl) ?_
          simp only [List.drop_succ_cons, List.drop_zero]
          go_wp2_with (first | (refine wpList_storeB (t := 50) rfl _ _ rfl _ rfl _ rfl g6 (by kernel_rfl) rfl (by simp [Value.oneCell']) ?_; have g6o := g6; clear g6; intro wn ht hcn hzn; replace rs1 := rs1.chg g6o (by simp) hcn; have hsz := B.size; replace hzn := Nat.le_of_eq hzn.symm; replace B := Chg.below B hcn (by omega) B.size; (try replace r2 := r2.of_eq (hcn.block _ r2.lt (by omega))); (try replace r3 := r3.of_eq (hcn.block _ r3.lt (by omega))); (try replace q5 := q5.of_eq (hcn.block _ q5.lt (by omega))); have g6 := ht; clear ht; simp only [Act.put, putS]) | fail)
          refine NoPan.normal ?_
          go_wp2_with fail
          go_meet
          exact ⟨b_g6, a1, c1, _, rfl, by rw [E.out]; exact g6, by rw [E.out]; exact rs1, B, r2, r3⟩
      case rest =>
        obtain ⟨b_g6, a1, c1, e1, rfl, g6, rs1, B, r2, r3⟩ := hcut
        go_wp2_with (first | (refine wpList_storeB (t := 30) rfl _ _ rfl _ rfl _ rfl r3 (by kernel_rfl) rfl (by simp [Value.oneCell']) ?_; have r3o := r3; clear r3; intro wn ht hcn hzn; replace rs1 := rs1.chg r3o (by simp) hcn; have hsz := B.size; replace hzn := Nat.le_of_eq hzn.symm; replace B := Chg.below B hcn (by omega) B.size; (try replace r2 := r2.of_eq (hcn.block _ r2.lt (by omega))); (try replace q5 := q5.of_eq (hcn.block _ q5.lt (by omega))); (try replace g6 := g6.of_eq (hcn.block _ g6.lt (by omega))); have r3 := ht; clear ht; simp only [Act.put, putS]) | (refine wpList_loadAny (t := 30) rfl _ rfl _ _ _ rfl (run_load_ras (g6.cell 0 rfl)) (by rfl) ?_; simp only [Act.put, putS]) | fail)
        go_roundw
        case rel => exact ⟨k + 1, n + 3, a1, c1, by have := HN.out; omega, by omega, by go_num, B, r2, r3, rs1⟩
        case measure => simp [intOf]; omega
    · have E := Lib.hid (show madeK L k = madeL L from by
        unfold madeL
        by_cases hk40 : k = 40
        · rw [hk40]
        · have := madeK_stop L k (by omega) (40 - k)
          rw [show k + (40 - k) = 40 by omega] at this
          exact this.symm)
      have hnb : n ≤ 120 := by omega
      clear hn3
      by_cases hix : n + 2 < L.length
      · have d1 : decide ((n : Int) + 2 < (L.length : Int)) = true := decide_eq_true (by omega)
        have d2 : decide ((n : Int) < 120) = false := decide_eq_false (by omega)
        clear hq
        go_wp2_with (first | (refine wpList_storeB (t := 30) rfl _ _ rfl _ rfl _ rfl r2 (by kernel_rfl) rfl (by simp [Value.oneCell']) ?_; have r2o := r2; clear r2; intro wn ht hcn hzn; replace rs := rs.chg r2o (by simp) hcn; have hsz := B.size; replace hzn := Nat.le_of_eq hzn.symm; replace B := Chg.below B hcn (by omega) B.size; (try replace r3 := r3.of_eq (hcn.block _ r3.lt (by omega))); (try replace q5 := q5.of_eq (hcn.block _ q5.lt (by omega))); (try replace g6 := g6.of_eq (hcn.block _ g6.lt (by omega))); have r2 := ht; clear ht; simp only [Act.put, putS]) | (refine wpList_loadAny (t := 30) rfl _ rfl _ _ _ rfl (run_load_B r3 Try.isAgg30 (by kernel_rfl)) (by rfl) ?_; simp only [Act.put, putS]) | fail)
        refine bodyPost_ret (results_B (t := 30) rfl _ _ (b_r2) rfl r2 Try.isAgg30 (by kernel_rfl)) rfl ?_
        exact ⟨_, rfl, by rw [← E.out]; exact rs, B⟩
      · have d1 : decide ((n : Int) + 2 < (L.length : Int)) = false := decide_eq_false (by omega)
        clear hq
        go_wp2_with (first | (refine wpList_storeB (t := 30) rfl _ _ rfl _ rfl _ rfl r2 (by kernel_rfl) rfl (by simp [Value.oneCell']) ?_; have r2o := r2; clear r2; intro wn ht hcn hzn; replace rs := rs.chg r2o (by simp) hcn; have hsz := B.size; replace hzn := Nat.le_of_eq hzn.symm; replace B := Chg.below B hcn (by omega) B.size; (try replace r3 := r3.of_eq (hcn.block _ r3.lt (by omega))); (try replace q5 := q5.of_eq (hcn.block _ q5.lt (by omega))); (try replace g6 := g6.of_eq (hcn.block _ g6.lt (by omega))); have r2 := ht; clear ht; simp only [Act.put, putS]) | (refine wpList_loadAny (t := 30) rfl _ rfl _ _ _ rfl (run_load_B r3 Try.isAgg30 (by kernel_rfl)) (by rfl) ?_; simp only [Act.put, putS]) | fail)
        refine bodyPost_ret (results_B (t := 30) rfl _ _ (b_r2) rfl r2 Try.isAgg30 (by kernel_rfl)) rfl ?_
        exact ⟨_, rfl, by rw [← E.out]; exact rs, B⟩
end Go.Proofs.Ytppccnjckiedlaa
/- Stores into a row of tiles at positions. -/
namespace Go.Proofs.Ytppccnjckiedlaa
open Go.RowKit Go.Shelf Pl
set_option linter.unusedVariables false
set_option linter.unusedSimpArgs false
set_option maxRecDepth 20000

theorem aT_set (ls : List TA) (i k : Nat) (e : TA) (hi : i < ls.length) : aT (ls.set i e) k = if k = i then e else aT ls k := by
  unfold aT
  rw [List.getD_eq_getElem?_getD, List.getD_eq_getElem?_getD, List.getElem?_set]
  by_cases h : i = k
  · subst h; simp [hi]
  · rw [if_neg h, if_neg (Ne.symm h)]
theorem sz_setCells (b : Nat) : ∀ (vs : List Value) (o : Nat) (w : World), (w.setCells b o vs).heap.size = w.heap.size
  | [], _, _ => rfl
  | v :: r, o, w => by
    show ((w.setCell ⟨b, o, none⟩ v).setCells b (o + 1) r).heap.size = _
    rw [sz_setCells b r, World.size_setCell]
theorem RCells.put {g o i s : Nat} {ls : List TA} {w : World} {vs : List Value} (h : RCells g o ls w) (e' : TA) (hi : i < ls.length) (hs : s + vs.length ≤ 258)
    (he : ∀ j, j < 258 → (taC e')[j]? = if s ≤ j ∧ j < s + vs.length then vs[j - s]? else (taC (aT ls i))[j]?) : RCells g o (ls.set i e') (w.setCells g (o + i * 258 + s) vs) := by
  refine ⟨by rw [sz_setCells]; exact h.1, fun k hk j hj => ?_⟩
  rw [List.length_set] at hk
  rw [aT_set ls i k e' hi]
  have hsome : ∀ j, j < vs.length → (w.cell? ⟨g, o + i * 258 + s + j, none⟩).isSome = true := fun j hj => by
    have := h.2 i hi (s + j) (by omega)
    rw [show o + i * 258 + s + j = o + (i * 258 + (s + j)) by omega, this, Array.getElem?_eq_getElem (by rw [size_taC]; omega)]
    rfl
  by_cases hki : k = i
  · subst hki
    rw [if_pos rfl, he j hj]
    by_cases hj2 : s ≤ j ∧ j < s + vs.length
    · rw [if_pos hj2, show o + (k * 258 + j) = o + k * 258 + s + (j - s) by omega, World.cell?_setCells_in g vs _ w hsome (j - s) (by omega), List.getElem?_eq_getElem]
    · rw [if_neg hj2, World.cell?_setCells_out g vs _ w _ (fun _ _ => by show o + (k * 258 + j) < o + k * 258 + s ∨ o + k * 258 + s + vs.length ≤ o + (k * 258 + j); omega)]
      exact h.2 k hk j hj
  · rw [if_neg hki, World.cell?_setCells_out g vs _ w _ (fun _ _ => by
      show o + (k * 258 + j) < o + i * 258 + s ∨ o + i * 258 + s + vs.length ≤ o + (k * 258 + j)
      rcases Nat.lt_or_gt_of_ne hki with hh | hh
      · left; have : (k + 1) * 258 ≤ i * 258 := Nat.mul_le_mul_right _ hh; omega
      · right; have : (i + 1) * 258 ≤ k * 258 := Nat.mul_le_mul_right _ hh; omega)]
    exact h.2 k hk j hj
/-- An owned row of tiles: its cells may be written. -/
theorem OwnT.row {B : Nat} {v : Value} {ls : List TA} {w : World} (h : OwnT B v ls w) (hl : 0 < ls.length) : ∃ g c, v = .slice (some ⟨g, 0, none⟩) ls.length c ∧ B ≤ g ∧ RCells g 0 ls w ∧ ∀ j, w.frozen? ⟨g, j, none⟩ = false := by
  have hr := h.rs
  obtain ⟨h1, h2⟩ := h
  rcases h2 with ⟨rfl, h0⟩ | ⟨g, cap, cur, rfl, hb, hg, hn, hm, hs, ht⟩
  · exact absurd hl (by omega)
  · obtain ⟨g', o', e, rc⟩ := hr.at hl
    injection e with e
    injection e with e1 e2
    subst e1; subst e2
    exact ⟨g, cap, rfl, hb, rc, fun j => AtB.frozen (t := 79) hg j⟩
section
variable {ops : Array Oper} {rest : List Oper} {o : Oper} {a : Act} {w : World} {Q : Exit → Act → World → Prop} {ls : List TA} {g : Nat}
end
end Go.Proofs.Ytppccnjckiedlaa
/- Contract of `of` of the law package of rasters. -/
namespace Go.Proofs.Ytppccnjckiedlaa
open Go.RowKit Go.Shelf Pl
set_option linter.unusedVariables false
set_option linter.unusedSimpArgs false
set_option maxRecDepth 20000

/-- What Raw describes (its two slices aside). -/
structure RawQ where
  at_ : Int
  px : Int
  py : Int
  how : Int
def ninT (t : Nat → Px) : Nat → Px := upd t 5 ⟨9, (t 5).g, (t 5).b, (t 5).a⟩
def turnA (q : RawQ) (T : List Int) (e : TA) : TA :=
  if q.how % 8 = 1 then ⟨q.px, q.py, e.t⟩ else if q.how % 8 = 2 then ⟨e.x, e.y, madeT T⟩ else if q.how % 8 = 3 then ⟨e.x, e.y, ninT e.t⟩ else e
def ofI (q : RawQ) (n : Nat) : Nat := (q.at_ % 65536).toNat % n
def ofR (q : RawQ) (T : List Int) (r : List TA) : List TA :=
  if r.length = 0 then r else if q.how % 8 = 4 then r ++ [aT r (ofI q r.length)] else r.set (ofI q r.length) (turnA q T (aT r (ofI q r.length)))
def ofL (q : RawQ) (L T : List Int) : List TA := ofR q T (madeL L)
theorem madeL_tok (L : List Int) : TokL (madeL L) := madeK_tok L 40
theorem madeL_valid (L : List Int) : validL (madeL L) = true := madeK_valid L 40
theorem madeL_len (L : List Int) : (madeL L).length ≤ 1024 := madeK_len L 40
theorem run_load_sli {w : World} {b j : Nat} {v : Value} (h : w.cell? ⟨b, j, none⟩ = some v) : (Instr.loadAt 22 (.pointer (some ⟨b, j, none⟩))).run Try.prog w = .ok v w := by
  simp [go_sem, h]
theorem R_Made8O (v : Value) (L : List Int) (w : World) (h : RSE inE v L w) (hn : L.length ≤ 17592186044416) : Calls Try.prog 18 #[v] w fun e w' => ∃ a c, e = .returned (.agg #[.slice a (madeL L).length c]) ∧ RS (.slice a (madeL L).length c) (madeL L) w' ∧ Below w.heap.size w w' :=
  (R_Made8 v L w h hn).mono fun e w' ⟨v', he, hr, hb⟩ => by
    obtain ⟨a, c, rfl, _⟩ := hr.len
    exact ⟨a, c, he, hr, hb⟩
end Go.Proofs.Ytppccnjckiedlaa
/- Contract of `of` of the law package of rasters: the walk. -/
namespace Go.Proofs.Ytppccnjckiedlaa
open Go.RowKit Go.Shelf Pl
set_option linter.unusedVariables false
set_option linter.unusedSimpArgs false
set_option maxRecDepth 20000

end Go.Proofs.Ytppccnjckiedlaa
/- Contracts of `of` of the law package whole. -/
namespace Go.Proofs.Ytppccnjckiedlaa
open Go.RowKit Go.Shelf Pl
set_option linter.unusedVariables false
set_option linter.unusedSimpArgs false
set_option maxRecDepth 20000
end Go.Proofs.Ytppccnjckiedlaa
/- How this seat's arguments are opened: slices of integers, rectangles, generated rasters. -/
namespace Go.Proofs.Ytppccnjckiedlaa
open Go.ChangeShapes Go.WideShapes Go.ChangeAt Go.RowKit Pl
set_option linter.unusedVariables false
set_option linter.unusedSimpArgs false
set_option maxRecDepth 20000

theorem reach_44 : reachBytes ≤ 140737488351232 := by decide
section
variable {H : Type} {enc : TypeId × Value → H} {w : World} {base : Nat} {spare : Nat → Bool} {held : Bool}
theorem addr_add0 (b off n : Nat) : (Addr.add ⟨b, off, none⟩ n) = ⟨b, off + n, none⟩ := by
  unfold Addr.add; split
  · rename_i h; subst h; rfl
  · rfl
theorem trod_ints {fuel : Nat} {cs : List Value} {x : DataW H × List MemPlace} (h : DataW.trod enc Try.prog w base spare held fuel 22 cs = some x) (hw : ∀ n ∈ x.1.weights Try.prog 22, n ≤ reachBytes) :
    ∃ v L, cs = [v] ∧ RSE inE v L w ∧ L.length ≤ 17592186044416 := by
  have hC : Try.prog.cellsOf 3 = 1 := by kernel_rfl
  have hB : Try.prog.bytesOf 3 = 8 := by kernel_rfl
  rcases open_ints Try.underlying22 Try.underlying3 hC h with ⟨rfl, rfl⟩ | ⟨a, len, cap, zs, rfl, _, hl, hcap, hz, rfl, hcell, _⟩
  · exact ⟨_, [], rfl, RSE.nil w, by simp⟩
  · have hzl : len ≤ zs.length := by rw [hz]; split <;> omega
    have htl : (zs.take len).length = len := by rw [List.length_take, Nat.min_eq_left hzl]
    refine ⟨_, zs.take len, rfl, ?_, ?_⟩
    · by_cases h0 : len = 0
      · subst h0; exact .inr (.inr ⟨a, cap, rfl, by simp⟩)
      · obtain ⟨b, off, spot⟩ := a
        have c0 := hcell 0 (by omega)
        have hspot : spot = none := by simpa [Addr.add] using World.cell?_spot c0
        subst hspot
        simp only [addr_add0] at hcell c0
        refine .inr (.inl ⟨b, off, cap, by rw [htl], by rw [htl]; exact hl, fun _ => ⟨World.block_lt_of_cell? w _ c0, fun i x hi j hj => ?_⟩⟩)
        obtain rfl : j = 0 := by omega
        have hil : i < len := by rw [← htl]; exact (List.getElem?_eq_some_iff.1 hi).1
        rw [List.getElem?_take_of_lt hil] at hi
        rw [Nat.mul_one, Nat.add_zero, hcell i (by omega), List.getD_eq_getElem?_getD, hi]
        rfl
    · rw [htl]
      have := hw ((len + (zs.length - len)) * 8) (by simp [DataW.weights, Try.underlying22, hB, lits, Nat.min_eq_left hzl])
      have := reach_44
      omega
theorem trod_int1 {fuel : Nat} {cs : List Value} {x : DataW H × List MemPlace} (h : DataW.trod enc Try.prog w base spare held fuel 3 cs = some x) : ∃ n : Int, cs = [.int .i64 n] ∧ (Lit.int .i64 n).wf = true := by
  obtain ⟨n, e, _, wf⟩ := DataW.trod_int Try.underlying3 h
  exact ⟨n, e, wf⟩
theorem open_rect {r : Reach} {b0 : Nat} {v : Value} {d : DataW H} {p : List MemPlace} (hv : Value.okWide Try.prog w r b0 64 v)
    (h : DataW.Trod enc Try.prog w base spare held 64 v d p) : ∃ c : Rc, v = Rc.v c ∧ ((Lit.int .i64 c.x0).wf = true ∧ (Lit.int .i64 c.y0).wf = true ∧ (Lit.int .i64 c.x1).wf = true ∧ (Lit.int .i64 c.y1).wf = true) := by
  obtain ⟨cs, rfl, hsz⟩ := okWide_struct Try.underlying64 hv
  have hC : Try.prog.cellsOf 3 = 1 := by kernel_rfl
  have hC4 : Try.prog.cellsOf 64 = 4 := by kernel_rfl
  obtain ⟨c0, c1, c2, c3, rfl⟩ := Joins.array4 (hsz.trans hC4)
  obtain ⟨fuel, hf⟩ := h
  obtain ⟨y0, y1, y2, y3, n, hx, _, h0, h1, h2, h3⟩ := Joins.trod_struct4 Try.underlying64 hf
  simp only [Value.cells, hC, List.drop_zero, List.drop_succ_cons, List.take_succ_cons, List.take_zero] at h0 h1 h2 h3
  obtain ⟨a, ea, wa⟩ := trod_int1 h0
  obtain ⟨b, eb, wb⟩ := trod_int1 h1
  obtain ⟨c, ec, wc⟩ := trod_int1 h2
  obtain ⟨e, ee, we⟩ := trod_int1 h3
  simp at ea eb ec ee
  subst ea; subst eb; subst ec; subst ee
  exact ⟨⟨a, b, c, e⟩, rfl, wa, wb, wc, we⟩
end
end Go.Proofs.Ytppccnjckiedlaa
/- Contract of gouacheref08.Full. -/
namespace Go.Proofs.Ytppccnjckiedlaa
open Go.RowKit Go.Shelf Pl
set_option linter.unusedVariables false
set_option linter.unusedSimpArgs false
set_option maxRecDepth 20000

def fullA (i : Nat) : TA := ⟨(i : Int) % 40, (i : Int) / 40, fillT ⟨(i : Int) % 256, 0, 0, 255⟩⟩
def fullL (n : Nat) : List TA := (List.range n).map fullA
end Go.Proofs.Ytppccnjckiedlaa
/- Plain laws of rasters: cropping, bounds. -/
namespace Go.Proofs.Ytppccnjckiedlaa
open Go.RowKit Pl
set_option linter.unusedVariables false
set_option linter.unusedSimpArgs false

/-- A tile cropped. -/
def cropT (c : Rc) (x y : Int) (t : Nat → Px) : Nat → Px := fun i => if i < 64 then (if hasR c (x * 8 + (i : Int) % 8) (y * 8 + (i : Int) / 8) = true then t i else Px.zero) else t i
def cropE (c : Rc) (e : TA) : List TA := newA e.x e.y (cropT c e.x e.y e.t)
theorem hasR_iff (r : Rc) (x y : Int) : hasR r x y = true ↔ (r.x0 ≤ x ∧ x < r.x1 ∧ r.y0 ≤ y ∧ y < r.y1) := by unfold hasR; exact decide_eq_true_iff
theorem emptyR_iff (r : Rc) : emptyR r = true ↔ (r.x1 ≤ r.x0 ∨ r.y1 ≤ r.y0) := by unfold emptyR; exact decide_eq_true_iff
theorem emptyR_not (r : Rc) : emptyR r = false ↔ (r.x0 < r.x1 ∧ r.y0 < r.y1) := by
  rw [← Bool.not_eq_true, emptyR_iff]; omega
theorem zeroB_iff (t : Nat → Px) : zeroB t = true ↔ ∀ i, i < 64 → (t i).a = 0 := by
  unfold zeroB
  rw [decide_eq_true_iff]
  exact ⟨fun h i hi => h i (List.mem_range.2 hi), fun h i hi => h i (List.mem_range.1 hi)⟩
theorem goodA_iff (e : TA) : goodA e = true ↔ withinB e.x e.y = true ∧ zeroB e.t = false ∧ eqT (cleanT e.t) e.t = true := by
  unfold goodA
  rw [Bool.and_eq_true, Bool.and_eq_true, Bool.not_eq_true']
theorem eqT_at {t u : Nat → Px} (h : eqT t u = true) {i : Nat} (hi : i < 64) : t i = u i := by
  unfold eqT at h
  exact of_decide_eq_true h i (List.mem_range.2 hi)
theorem eqA_refl (e : TA) : eqA e e = true := by
  unfold eqA eqB
  rw [eqT_refl, decide_eq_true ⟨rfl, rfl⟩]
  rfl
theorem eqL_refl (ls : List TA) : eqL ls ls = true := eqL_yes rfl fun j _ => eqA_refl _

/-! ### Bounds -/
/-- A pixel that is not transparent. -/
def Vis (ls : List TA) (x y : Int) : Prop := ∃ e, e ∈ ls ∧ ∃ i : Nat, i < 64 ∧ 0 < (e.t i).a ∧ x = e.x * 8 + (i : Int) % 8 ∧ y = e.y * 8 + (i : Int) / 8
/-- The least rectangle around V. -/
def Tight (V : Int → Int → Prop) (r : Rc) : Prop := (r = Rc.zero ∧ ∀ x y, ¬ V x y) ∨ (emptyR r = false ∧ (∀ x y, V x y → hasR r x y = true) ∧ (∃ y, V r.x0 y) ∧ (∃ x, V x r.y0) ∧ (∃ y, V (r.x1 - 1) y) ∧ ∃ x, V x (r.y1 - 1))
theorem Tight.add {V : Int → Int → Prop} {r : Rc} (h : Tight V r) (x y : Int) : Tight (fun a b => V a b ∨ (a = x ∧ b = y)) (unionR r ⟨x, y, x + 1, y + 1⟩) := by
  have h1 : emptyR ⟨x, y, x + 1, y + 1⟩ = false := (emptyR_not _).2 ⟨by show x < x + 1; omega, by show y < y + 1; omega⟩
  rcases h with ⟨rfl, hn⟩ | ⟨he, hin, ⟨ya, ha⟩, ⟨xb, hb⟩, ⟨yc, hc⟩, ⟨xd, hd⟩⟩
  · have e : unionR Rc.zero ⟨x, y, x + 1, y + 1⟩ = ⟨x, y, x + 1, y + 1⟩ := by
      unfold unionR normR
      rw [if_pos (by decide), h1]
      rfl
    rw [e]
    refine .inr ⟨h1, fun a b hv => ?_, ⟨y, .inr ⟨rfl, rfl⟩⟩, ⟨x, .inr ⟨rfl, rfl⟩⟩, ⟨y, .inr ⟨by show x + 1 - 1 = x; omega, rfl⟩⟩, ⟨x, .inr ⟨rfl, by show y + 1 - 1 = y; omega⟩⟩⟩
    rcases hv with hv | ⟨rfl, rfl⟩
    · exact absurd hv (hn a b)
    · rw [hasR_iff]; simp only; omega
  · have e : unionR r ⟨x, y, x + 1, y + 1⟩ = ⟨min r.x0 x, min r.y0 y, max r.x1 (x + 1), max r.y1 (y + 1)⟩ := by
      unfold unionR
      rw [he, h1, if_neg (by decide), if_neg (by decide)]
    rw [e]
    have hen := (emptyR_not r).1 he
    refine .inr ⟨(emptyR_not _).2 ⟨by show min r.x0 x < max r.x1 (x + 1); omega, by show min r.y0 y < max r.y1 (y + 1); omega⟩, fun a b hv => ?_, ?_, ?_, ?_, ?_⟩
    · rw [hasR_iff]
      simp only
      rcases hv with hv | ⟨rfl, rfl⟩
      · have := (hasR_iff r a b).1 (hin a b hv)
        omega
      · omega
    · show ∃ b, V (min r.x0 x) b ∨ (min r.x0 x = x ∧ b = y)
      by_cases hh : r.x0 ≤ x
      · exact ⟨ya, .inl (by rw [Int.min_eq_left hh]; exact ha)⟩
      · exact ⟨y, .inr ⟨by omega, rfl⟩⟩
    · show ∃ a, V a (min r.y0 y) ∨ (a = x ∧ min r.y0 y = y)
      by_cases hh : r.y0 ≤ y
      · exact ⟨xb, .inl (by rw [Int.min_eq_left hh]; exact hb)⟩
      · exact ⟨x, .inr ⟨rfl, by omega⟩⟩
    · show ∃ b, V (max r.x1 (x + 1) - 1) b ∨ (max r.x1 (x + 1) - 1 = x ∧ b = y)
      by_cases hh : x + 1 ≤ r.x1
      · exact ⟨yc, .inl (by rw [Int.max_eq_left hh]; exact hc)⟩
      · exact ⟨y, .inr ⟨by omega, rfl⟩⟩
    · show ∃ a, V a (max r.y1 (y + 1) - 1) ∨ (a = x ∧ max r.y1 (y + 1) - 1 = y)
      by_cases hh : y + 1 ≤ r.y1
      · exact ⟨xd, .inl (by rw [Int.max_eq_left hh]; exact hd)⟩
      · exact ⟨x, .inr ⟨rfl, by omega⟩⟩
theorem tileL_some (ls : List TA) (x y : Int) : tileL ls x y = zT ∨ ∃ e, e ∈ ls ∧ e.x = x ∧ e.y = y ∧ tileL ls x y = e.t := by
  induction ls with
  | nil => exact .inl rfl
  | cons e r ih =>
    unfold tileL
    by_cases h : eqB e.x e.y x y = true
    · rw [if_pos h]
      have := of_decide_eq_true h
      exact .inr ⟨e, List.mem_cons_self .., this.1, this.2, rfl⟩
    · rw [if_neg h]
      rcases ih with ih | ⟨k, hk, hr⟩
      · exact .inl ih
      · exact .inr ⟨k, List.mem_cons_of_mem _ hk, hr⟩
end Go.Proofs.Ytppccnjckiedlaa
/- Regions that draw their order, some of whose operations hand back values that are known by a fact alone: one walk in the order of the text serves for all orders. -/
namespace Go.Proofs.Ytppccnjckiedlaa
open Go.RowKit
set_option linter.unusedVariables false
set_option linter.unusedSimpArgs false

/-- What is known of an operation's value: its shape, a fact that lasts. -/
structure NSpec where
  α : Type
  ne : Nonempty α
  f : α → Value
  F : α → World → Prop
  mono : ∀ x w w', Below w.heap.size w w' → F x w → F x w'
theorem put_same {a b : Act} {d : Option Tmp} {u v : Value} (hs : b.tmps.size = a.tmps.size) (h : a.put d u = a.put d v) : b.put d u = b.put d v := by
  cases d with
  | none => rfl
  | some d =>
    have h1 : a.tmps.setIfInBounds d u = a.tmps.setIfInBounds d v := congrArg Act.tmps h
    show ({ b with tmps := b.tmps.setIfInBounds d u } : Act) = { b with tmps := b.tmps.setIfInBounds d v }
    by_cases hd : d < a.tmps.size
    · have h2 := congrArg (fun t : Array Value => t[d]?) h1
      simp [hd] at h2
      rw [h2]
    · have hd1 : a.tmps.size ≤ d := Nat.le_of_not_lt hd
      have hd2 : b.tmps.size ≤ d := hs ▸ hd1
      rw [Array.setIfInBounds_eq_of_size_le hd2, Array.setIfInBounds_eq_of_size_le hd2]
theorem put_size (a : Act) (d : Option Tmp) (v : Value) : (a.put d v).tmps.size = a.tmps.size := by
  cases d with
  | none => rfl
  | some d => show (a.tmps.setIfInBounds d v).size = _; simp
def envS (E : Nat → World → Prop) (k : Nat) (G : World → Prop) : Nat → World → Prop := fun j => if j = k then G else E j
theorem envS_comm (E : Nat → World → Prop) {k i : Nat} (h : k ≠ i) (A B : World → Prop) : envS (envS E k A) i B = envS (envS E i B) k A := by
  funext j
  unfold envS
  by_cases h1 : j = i
  · rw [if_pos h1, if_neg (by omega), if_pos h1]
  · rw [if_neg h1]
    by_cases h2 : j = k
    · rw [if_pos h2, if_pos h2]
    · rw [if_neg h2, if_neg h2, if_neg h1]
theorem envS_ne (E : Nat → World → Prop) {k j : Nat} (h : j ≠ k) (A : World → Prop) : envS E k A j = E j := if_neg h
section
variable {P : Program} {ops : Array Oper} {Q : Exit → Act → World → Prop} {md : Region.Mode} {C : World → Prop} {S : Nat → Option NSpec} {L : (Nat → World → Prop) → Act → Prop}
/-- The operation number k hands back a value as its specification says, wherever those it waits for have come. -/
def stepR (P : Program) (ops : Array Oper) (md : Region.Mode) (Q : Exit → Act → World → Prop) (C : World → Prop) (E : Nat → World → Prop) (k : Nat) (o : Oper) (a : Act) (s : NSpec) : Prop :=
  ∀ w, C w → (∀ j, Region.waitsFor md ops k j = true → E j w) → o.wp P a w (fun a' w' => ∃ x, a' = a.put o.dst (s.f x) ∧ s.F x w' ∧ Below w.heap.size w w') (NoPan Q)
theorem stepR_of {E : Nat → World → Prop} {k : Nat} {o : Oper} {a : Act} {s : NSpec}
    (h : ∀ w, C w → (∀ j, Region.waitsFor md ops k j = true → E j w) → ∀ K : Act → World → Prop, (∀ x w', s.F x w' → Below w.heap.size w w' → K (a.put o.dst (s.f x)) w') → o.wp P a w K (NoPan Q)) : stepR P ops md Q C E k o a s :=
  fun w hC hE => h w hC hE _ fun x w' h1 h2 => ⟨x, rfl, h1, h2⟩
theorem stepR_move {E E' : Nat → World → Prop} {k : Nat} {o : Oper} {a b : Act} {s : NSpec} (he : execOp b.eval o = execOp a.eval o) (hs : b.tmps.size = a.tmps.size) (hE : ∀ j w, Region.waitsFor md ops k j = true → E' j w → E j w)
    (h : stepR P ops md Q C E k o a s) : stepR P ops md Q C E' k o b s := by
  intro w hC hE'
  have h1 := h w hC fun j hj => hE j w hj (hE' j hj)
  unfold Oper.wp at *
  rw [he]
  generalize (execOp a.eval o).run P w = r at *
  cases r with
  | ok n w' =>
    cases n <;> simp only [Oper.upon] at h1 ⊢
    case value u => obtain ⟨x, h2, h3⟩ := h1; exact ⟨x, put_same hs h2, h3⟩
    case skip => obtain ⟨x, h2, h3⟩ := h1; exact ⟨x, put_same hs h2, h3⟩
    case defer d =>
      obtain ⟨x, h2, h3⟩ := h1
      have h4 := congrArg (fun y : Act => y.defers.length) h2
      cases ho : o.dst <;> rw [ho] at h4 <;> simp [Act.put] at h4
    case enter f args =>
      refine Calls.mono h1 fun e w'' he => ?_
      cases e with
      | returned u => obtain ⟨x, h2, h3⟩ := he; exact ⟨x, put_same hs h2, h3⟩
      | panicked c => exact he
      | outgrown => exact he
    case row row args => exact Rows.mono h1 fun u w'' ⟨x, h2, h3⟩ => ⟨x, put_same hs h2, h3⟩
  | halt x w' =>
    cases x <;> simp only [Oper.upon] at h1 ⊢
    case panic u => exact h1
/-- The walk in the order of the text. -/
def wpR (P : Program) (md : Region.Mode) (ops : Array Oper) (Q : Exit → Act → World → Prop) (C : World → Prop) (S : Nat → Option NSpec) (L : (Nat → World → Prop) → Act → Prop) : List Nat → (Nat → World → Prop) → Act → Prop
  | [], E, a => L E a
  | k :: r, E, a => match ops[k]? with
    | none => False
    | some o =>
      if Region.wanted o (yielded ops a.tmps) = true then
        match S k with
        | none => ∃ v, (∀ w, C w → (execOp a.eval o).run P w = .ok (.value v) w) ∧ wpR P md ops Q C S L r E (a.put o.dst v)
        | some s => stepR P ops md Q C E k o a s ∧ ∀ x, wpR P md ops Q C S L r (envS E k (s.F x)) (a.put o.dst (s.f x))
      else wpR P md ops Q C S L r E (a.put o.dst undef)
theorem wpR_swap {k i : Nat} {ok oi : Oper} {r : List Nat} (hk : ops[k]? = some ok) (hi : ops[i]? = some oi) (hap : ok.apart ops oi = true) (hsk : ∀ cs b, ok.op ≠ .select cs b) (hsi : ∀ cs b, oi.op ≠ .select cs b)
    (hne : k ≠ i) (hik : Region.waitsFor md ops i k = false) (hki : Region.waitsFor md ops k i = false) (hC : ∃ w, C w) {E : Nat → World → Prop} {a : Act}
    (h : wpR P md ops Q C S L (k :: i :: r) E a) : wpR P md ops Q C S L (i :: k :: r) E a := by
  obtain ⟨h1, h2, h3⟩ := Oper.apart_spec hap
  have ei : ∀ u, execOp (a.put ok.dst u).eval oi = execOp a.eval oi := fun u => execOp_put oi hsi a ok.dst u h1
  have ek : ∀ u, execOp (a.put oi.dst u).eval ok = execOp a.eval ok := fun u => execOp_put ok hsk a oi.dst u h3
  have wi : ∀ u, Region.wanted oi (yielded ops (a.put ok.dst u).tmps) = Region.wanted oi (yielded ops a.tmps) := fun u => wanted_put oi a ok.dst u h1
  have wk : ∀ u, Region.wanted ok (yielded ops (a.put oi.dst u).tmps) = Region.wanted ok (yielded ops a.tmps) := fun u => wanted_put ok a oi.dst u h3
  have pc : ∀ u v, (a.put ok.dst u).put oi.dst v = (a.put oi.dst v).put ok.dst u := fun u v => Act.put_comm a u v h2
  have Ek : ∀ (s : NSpec) x j w, Region.waitsFor md ops i j = true → E j w → envS E k (s.F x) j w := fun s x j w hj he => by
    rw [envS_ne]; exact he
    intro e; rw [e, hik] at hj; cases hj
  have Ek' : ∀ (s : NSpec) x j w, Region.waitsFor md ops i j = true → envS E k (s.F x) j w → E j w := fun s x j w hj he => by
    rw [envS_ne] at he; exact he
    intro e; rw [e, hik] at hj; cases hj
  have Ei' : ∀ (s : NSpec) x j w, Region.waitsFor md ops k j = true → envS E i (s.F x) j w → E j w := fun s x j w hj he => by
    rw [envS_ne] at he; exact he
    intro e; rw [e, hki] at hj; cases hj
  unfold wpR at h ⊢
  rw [hk] at h
  rw [hi]
  simp only at h ⊢
  -- the second's part of what the first leaves
  by_cases Wk : Region.wanted ok (yielded ops a.tmps) = true
  · rw [if_pos Wk] at h
    cases Sk : S k with
    | none =>
      rw [Sk] at h
      obtain ⟨v, hv, h⟩ := h
      unfold wpR at h
      rw [hi] at h
      simp only at h
      rw [wi] at h
      by_cases Wi : Region.wanted oi (yielded ops a.tmps) = true
      · rw [if_pos Wi] at h ⊢
        cases Si : S i with
        | none =>
          rw [Si] at h
          obtain ⟨u, hu, h⟩ := h
          refine ⟨u, fun w hw => by rw [← ei v]; exact hu w hw, ?_⟩
          unfold wpR
          rw [hk]
          simp only
          rw [wk, if_pos Wk, Sk]
          exact ⟨v, fun w hw => by rw [ek u]; exact hv w hw, by rw [← pc]; exact h⟩
        | some s =>
          rw [Si] at h
          obtain ⟨hs, h⟩ := h
          refine ⟨stepR_move (ei v).symm (put_size _ _ _).symm (fun _ _ _ he => he) hs, fun y => ?_⟩
          unfold wpR
          rw [hk]
          simp only
          rw [wk, if_pos Wk, Sk]
          exact ⟨v, fun w hw => by rw [ek]; exact hv w hw, by rw [← pc]; exact h y⟩
      · rw [if_neg Wi] at h ⊢
        unfold wpR
        rw [hk]
        simp only
        rw [wk, if_pos Wk, Sk]
        exact ⟨v, fun w hw => by rw [ek]; exact hv w hw, by rw [← pc]; exact h⟩
    | some s =>
      rw [Sk] at h
      obtain ⟨hs, h⟩ := h
      obtain ⟨x0⟩ := s.ne
      by_cases Wi : Region.wanted oi (yielded ops a.tmps) = true
      · rw [if_pos Wi]
        cases Si : S i with
        | none =>
          have hx : ∀ x, ∃ v, (∀ w, C w → (execOp a.eval oi).run P w = .ok (.value v) w) ∧ wpR P md ops Q C S L r (envS E k (s.F x)) ((a.put ok.dst (s.f x)).put oi.dst v) := fun x => by
            have h := h x
            unfold wpR at h
            rw [hi] at h
            simp only at h
            rw [wi, if_pos Wi, Si] at h
            obtain ⟨v, hv, h⟩ := h
            exact ⟨v, fun w hw => by rw [← ei (s.f x)]; exact hv w hw, h⟩
          obtain ⟨v, hv, _⟩ := hx x0
          refine ⟨v, hv, ?_⟩
          unfold wpR
          rw [hk]
          simp only
          rw [wk, if_pos Wk, Sk]
          refine ⟨stepR_move (ek v) (put_size _ _ _) (fun _ _ _ he => he) hs, fun x => ?_⟩
          obtain ⟨v', hv', h'⟩ := hx x
          obtain ⟨w, hw⟩ := hC
          have e := (hv w hw).symm.trans (hv' w hw)
          injection e with e _
          injection e with e
          rw [← pc, e]
          exact h'
        | some t =>
          have hx : ∀ x, stepR P ops md Q C (envS E k (s.F x)) i oi (a.put ok.dst (s.f x)) t ∧ ∀ y, wpR P md ops Q C S L r (envS (envS E k (s.F x)) i (t.F y)) ((a.put ok.dst (s.f x)).put oi.dst (t.f y)) := fun x => by
            have h := h x
            unfold wpR at h
            rw [hi] at h
            simp only at h
            rw [wi, if_pos Wi, Si] at h
            exact h
          refine ⟨stepR_move (ei (s.f x0)).symm (put_size _ _ _).symm (Ek s x0) (hx x0).1, fun y => ?_⟩
          unfold wpR
          rw [hk]
          simp only
          rw [wk, if_pos Wk, Sk]
          refine ⟨stepR_move (ek _) (put_size _ _ _) (Ei' t y) hs, fun x => ?_⟩
          rw [← pc, ← envS_comm E hne]
          exact (hx x).2 y
      · rw [if_neg Wi]
        unfold wpR
        rw [hk]
        simp only
        rw [wk, if_pos Wk, Sk]
        refine ⟨stepR_move (ek _) (put_size _ _ _) (fun _ _ _ he => he) hs, fun x => ?_⟩
        have h := h x
        unfold wpR at h
        rw [hi] at h
        simp only at h
        rw [wi, if_neg Wi] at h
        rw [← pc]
        exact h
  · rw [if_neg Wk] at h
    unfold wpR at h
    rw [hi] at h
    simp only at h
    rw [wi] at h
    by_cases Wi : Region.wanted oi (yielded ops a.tmps) = true
    · rw [if_pos Wi] at h ⊢
      cases Si : S i with
      | none =>
        rw [Si] at h
        obtain ⟨u, hu, h⟩ := h
        refine ⟨u, fun w hw => by rw [← ei undef]; exact hu w hw, ?_⟩
        unfold wpR
        rw [hk]
        simp only
        rw [wk, if_neg Wk, ← pc]
        exact h
      | some s =>
        rw [Si] at h
        obtain ⟨hs, h⟩ := h
        refine ⟨stepR_move (ei undef).symm (put_size _ _ _).symm (fun _ _ _ he => he) hs, fun y => ?_⟩
        unfold wpR
        rw [hk]
        simp only
        rw [wk, if_neg Wk, ← pc]
        exact h y
    · rw [if_neg Wi] at h ⊢
      unfold wpR
      rw [hk]
      simp only
      rw [wk, if_neg Wk, ← pc]
      exact h
theorem wpR_cons {k : Nat} {r r' : List Nat} {E : Nat → World → Prop} {a : Act} (hr : ∀ E a, wpR P md ops Q C S L r E a → wpR P md ops Q C S L r' E a) (h : wpR P md ops Q C S L (k :: r) E a) : wpR P md ops Q C S L (k :: r') E a := by
  unfold wpR at h ⊢
  cases hk : ops[k]? with
  | none => rw [hk] at h; exact h
  | some o =>
    rw [hk] at h
    simp only at h ⊢
    split
    · rename_i hw
      rw [if_pos hw] at h
      cases hS : S k with
      | none => rw [hS] at h; obtain ⟨v, h1, h2⟩ := h; exact ⟨v, h1, hr _ _ h2⟩
      | some s => rw [hS] at h; exact ⟨h.1, fun x => hr _ _ (h.2 x)⟩
    · rename_i hw
      rw [if_neg hw] at h
      exact hr _ _ h
/-- Its value hangs on no world. -/
def pureO (o : Oper) : Bool := match o.op with
  | .move _ | .assign _ | .extract .. => true
  | _ => false
theorem pureO_run {o : Oper} {v : Value} {ρ : Operand → Value} {w0 : World} (h : pureO o = true) (hr : (execOp ρ o).run P w0 = .ok (.value v) w0) : ∀ w, (execOp ρ o).run P w = .ok (.value v) w := by
  intro w
  unfold pureO at h
  unfold execOp at hr ⊢
  cases ho : o.op <;> rw [ho] at h hr <;> first | (cases h; done) | skip
  all_goals simp only [Sem.run_bind, Sem.run_pure] at hr ⊢
  all_goals first
    | (injection hr with e _; rw [e])
    | skip
  rename_i t ix
  unfold Instr.extract at hr ⊢
  split at hr
  · rename_i vs hv
    split at hr
    · rename_i x hx
      simp only [Sem.run_pure, Result.andThen_ok] at hr
      injection hr with e _
      rw [← e]
      simp only [Sem.run_pure, Result.andThen_ok]
    · exact absurd hr (by simp [stuck, Result.andThen])
  · exact absurd hr (by simp [stuck, Result.andThen])
/-- The text's order is one of the orders; two operations of the head wait for one another or are apart. -/
def relH (md : Region.Mode) (ops : Array Oper) (hd : Nat → Bool) : Bool :=
  Region.noSelect ops && (List.range ops.size).all fun k => !hd k || match ops[k]? with
    | none => false
    | some ok => (ok.after.all fun e => !Region.binds md e || (decide (e.on < k) && hd e.on)) && (List.range k).all fun j => !hd j || match ops[j]? with
      | none => false
      | some oj => Region.waitsFor md ops k j || oj.apart ops ok
/-- What is not of the head waits for all of it that hangs on the world, and is apart from the rest. -/
def tailH (md : Region.Mode) (ops : Array Oper) (hd : Nat → Bool) : Bool :=
  (List.range ops.size).all fun t => hd t || match ops[t]? with
    | none => false
    | some ot => (List.range ops.size).all fun k => !hd k || match ops[k]? with
      | none => false
      | some ok => bif pureO ok then Region.waitsFor md ops t k || ok.apart ops ot else trB md ops k 8 t
variable {hd : Nat → Bool}
theorem relH_at {k : Nat} (h : relH md ops hd = true) (hk : hd k = true) (hks : k < ops.size) : ∃ ok, ops[k]? = some ok ∧ (∀ e ∈ ok.after, Region.binds md e = true → e.on < k ∧ hd e.on = true) ∧ ∀ j, j < k → hd j = true → ∃ oj, ops[j]? = some oj ∧ (Region.waitsFor md ops k j = true ∨ oj.apart ops ok = true) := by
  simp only [relH, Bool.and_eq_true] at h
  have h1 := List.all_eq_true.1 h.2 k (List.mem_range.2 hks)
  rw [hk] at h1
  cases ho : ops[k]? with
  | none => rw [ho] at h1; cases h1
  | some ok =>
    rw [ho] at h1
    simp only [Bool.not_true, Bool.false_or, Bool.and_eq_true] at h1
    refine ⟨ok, rfl, fun e he hb => ?_, fun j hj hdj => ?_⟩
    · have := Array.all_eq_true'.1 h1.1 e he
      rw [hb] at this
      simpa using this
    · have h2 := List.all_eq_true.1 h1.2 j (List.mem_range.2 hj)
      rw [hdj] at h2
      cases hj : ops[j]? with
      | none => rw [hj] at h2; cases h2
      | some oj =>
        rw [hj] at h2
        simp only [Bool.not_true, Bool.false_or, Bool.or_eq_true] at h2
        exact ⟨oj, rfl, h2⟩
theorem relH_sel (h : relH md ops hd = true) : Region.noSelect ops = true := by simp only [relH, Bool.and_eq_true] at h; exact h.1
theorem tailH_at {t k : Nat} {ot ok : Oper} (h : tailH md ops hd = true) (ht : hd t = false) (hot : ops[t]? = some ot) (hk : hd k = true) (hok : ops[k]? = some ok) : (pureO ok = true → Region.waitsFor md ops t k = true ∨ ok.apart ops ot = true) ∧ (pureO ok = false → trB md ops k 8 t = true) := by
  have h1 := List.all_eq_true.1 h t (List.mem_range.2 (Array.getElem?_eq_some_iff.1 hot).1)
  rw [ht, hot] at h1
  simp only [Bool.false_or] at h1
  have h2 := List.all_eq_true.1 h1 k (List.mem_range.2 (Array.getElem?_eq_some_iff.1 hok).1)
  rw [hk, hok] at h2
  simp only [Bool.not_true, Bool.false_or] at h2
  refine ⟨fun hp => ?_, fun hp => ?_⟩
  · rw [hp] at h2; simpa using h2
  · rw [hp] at h2; simpa using h2
theorem waitsFor_lt {k j : Nat} (h : relH md ops hd = true) (hk : hd k = true) (hw : Region.waitsFor md ops k j = true) : j < k := by
  obtain ⟨o, ho, e, he, hb, rfl⟩ := Region.waitsFor_spec hw
  obtain ⟨ok, hok, h1, _⟩ := relH_at h hk (Array.getElem?_eq_some_iff.1 ho).1
  obtain rfl : o = ok := Option.some.inj (ho.symm.trans hok)
  exact (h1 e he hb).1
theorem ready_waits {i k : Nat} {listed : Array Bool} (hi : i ∈ Region.ready md ops listed) (hk : listed.getD k true = false) : Region.waitsFor md ops i k = false := by
  cases h : Region.waitsFor md ops i k with
  | false => rfl
  | true =>
    obtain ⟨_, oi, hoi, hall⟩ := mem_ready.1 hi
    obtain ⟨o, ho, e, he, hb, rfl⟩ := Region.waitsFor_spec h
    obtain rfl : o = oi := Option.some.inj (ho.symm.trans hoi)
    have := hall e he hb
    rw [getD_both hk] at this
    cases this
theorem wpR_front {i : Nat} {listed : Array Bool} (hB : relH md ops hd = true) (hi : i ∈ Region.ready md ops listed) (hin : hd i = true) (hC : ∃ w, C w) : ∀ (l1 l2 : List Nat) (E : Nat → World → Prop) (a : Act),
    (∀ k ∈ l1, k < i ∧ hd k = true ∧ listed.getD k true = false) → wpR P md ops Q C S L (l1 ++ i :: l2) E a → wpR P md ops Q C S L (i :: (l1 ++ l2)) E a
  | [], _, _, _, _, h => h
  | k :: l1, l2, E, a, hl, h => by
    have h1 : wpR P md ops Q C S L (k :: i :: (l1 ++ l2)) E a := wpR_cons (fun E a => wpR_front hB hi hin hC l1 l2 E a fun j hj => hl j (List.mem_cons_of_mem _ hj)) h
    obtain ⟨hki, hkd, hun⟩ := hl k (List.mem_cons_self ..)
    have his : i < ops.size := by
      obtain ⟨_, oi, hoi, _⟩ := mem_ready.1 hi
      exact (Array.getElem?_eq_some_iff.1 hoi).1
    obtain ⟨oi, hoi, _, hj⟩ := relH_at hB hin his
    obtain ⟨ok, hok, hap⟩ := hj k hki hkd
    have hsel := Region.noSelect_spec (relH_sel hB)
    have hik := ready_waits hi hun
    have hap : ok.apart ops oi = true := hap.resolve_left (by rw [hik]; simp)
    have hki' : Region.waitsFor md ops k i = false := by
      cases hw : Region.waitsFor md ops k i with
      | false => rfl
      | true => have := waitsFor_lt hB hkd hw; omega
    exact wpR_swap hok hoi hap (fun cs b => hsel k ok cs b hok) (fun cs b => hsel i oi cs b hoi) (by omega) hik hki' hC h1
/-- Behind the head the tail comes. -/
theorem wpAny_of_R {g : Nat} (hB : relH md ops hd = true) (htail : tailH md ops hd = true) (hC : ∀ w w', C w → Below w.heap.size w w' → C w') (hS : ∀ k o, ops[k]? = some o → pureO o = true → S k = none)
    (hfin : ∀ listed a E w, listed.size = ops.size → (∀ k, k < ops.size → listed.getD k true = hd k) → L E a → C w → (∀ j, E j w) → wpAny P md ops (NoPan Q) g listed a w) :
    ∀ (m : Nat) (rem : List Nat) (listed : Array Bool) (a : Act) (E : Nat → World → Prop) (w : World), rem.length = m → rem.Pairwise (· < ·) → listed.size = ops.size → (∀ k, k ∈ rem ↔ k < ops.size ∧ hd k = true ∧ listed.getD k true = false) → (∀ t, t < ops.size → hd t = false → listed.getD t true = false) → ClosedX md ops listed →
      C w → (∀ j, E j w) → (∀ j w w', Below w.heap.size w w' → E j w → E j w') → wpR P md ops Q C S L rem E a → wpAny P md ops (NoPan Q) (m + g) listed a w := by
  have hsel := Region.noSelect_spec (relH_sel hB)
  intro m
  induction m with
  | zero =>
    intro rem listed a E w hm _ hsz hrem htl _ hw hE _ h
    obtain rfl := List.eq_nil_of_length_eq_zero hm
    rw [Nat.zero_add]
    refine hfin listed a E w hsz (fun k hks => ?_) h hw hE
    cases hk : hd k with
    | false => exact htl k hks hk
    | true =>
      cases hh : listed.getD k true with
      | true => rfl
      | false => have := (hrem k).2 ⟨hks, hk, hh⟩; cases this
  | succ m ih =>
    intro rem listed a E w hm hp hsz hrem htl hcl hw hE hmono h
    rw [show m + 1 + g = (m + g) + 1 by omega]
    obtain ⟨k0, r0, rfl⟩ : ∃ k r, rem = k :: r := by
      cases rem with
      | nil => cases hm
      | cons k r => exact ⟨k, r, rfl⟩
    have hk0 := (hrem k0).1 (List.mem_cons_self ..)
    obtain ⟨ok, hok, hk1, _⟩ := relH_at hB hk0.2.1 hk0.1
    have hready : k0 ∈ Region.ready md ops listed := by
      refine mem_ready.2 ⟨hk0.2.2, ok, hok, fun e he hb => ?_⟩
      have hlt := hk1 e he hb
      cases hh : listed.getD e.on false with
      | true => rfl
      | false =>
        have hm' := (hrem e.on).2 ⟨by omega, hlt.2, getD_in (by omega) hh⟩
        rcases List.mem_cons.1 hm' with e' | hm'
        · omega
        · have := (List.pairwise_cons.1 hp).1 _ hm'
          omega
    -- the state behind an operation of the head
    have after : ∀ i l1 l2, i < ops.size → hd i = true → i ∈ Region.ready md ops listed → k0 :: r0 = l1 ++ i :: l2 → ∀ (a' : Act) (E' : Nat → World → Prop) (w' : World), C w' → (∀ j, E' j w') → (∀ j w w', Below w.heap.size w w' → E' j w → E' j w') → wpR P md ops Q C S L (l1 ++ l2) E' a' → wpAny P md ops (NoPan Q) (m + g) (listed.setIfInBounds i true) a' w' := by
      intro i l1 l2 his hin hi hsp a' E' w'
      rw [hsp] at hp hm
      have hlt1 : ∀ k ∈ l1, k < i := fun k hk => (List.pairwise_append.1 hp).2.2 k hk i (List.mem_cons_self ..)
      have hp' : (l1 ++ l2).Pairwise (· < ·) := hp.sublist (List.Sublist.append (List.Sublist.refl l1) (List.sublist_cons_self i l2))
      have hlen : (l1 ++ l2).length = m := by rw [List.length_append] at hm ⊢; rw [List.length_cons] at hm; omega
      have hnot : i ∉ l1 ++ l2 := fun hh => by
        rw [List.pairwise_append] at hp
        rcases List.mem_append.1 hh with hh | hh
        · exact absurd (hlt1 i hh) (Nat.lt_irrefl _)
        · exact absurd ((List.pairwise_cons.1 hp.2.1).1 i hh) (Nat.lt_irrefl _)
      have hrem' : ∀ k, k ∈ l1 ++ l2 ↔ k < ops.size ∧ hd k = true ∧ (listed.setIfInBounds i true).getD k true = false := fun k => by
        by_cases hki : k = i
        · subst hki
          refine ⟨fun hh => absurd hh hnot, fun hh => ?_⟩
          have hks : k < listed.size := by omega
          simp [hks] at hh
        · rw [getD_set_ne true (Ne.symm hki), ← hrem k, hsp]
          simp only [List.mem_append, List.mem_cons]
          constructor
          · rintro (hh | hh)
            · exact .inl hh
            · exact .inr (.inr hh)
          · rintro (hh | hh | hh)
            · exact .inl hh
            · exact absurd hh hki
            · exact .inr hh
      have htl' : ∀ t, t < ops.size → hd t = false → (listed.setIfInBounds i true).getD t true = false := fun t hts ht => by
        rw [getD_set_ne true (fun e => by rw [e, ht] at hin; cases hin)]; exact htl t hts ht
      exact ih (l1 ++ l2) (listed.setIfInBounds i true) a' E' w' hlen hp' (by simp; exact hsz) hrem' htl' (hcl.set hi)
    cases hpu : pureO ok with
    | true =>
      have h2 := h
      unfold wpR at h2
      rw [hok] at h2
      simp only at h2
      obtain ⟨v, hy, h3⟩ : ∃ v, Yields P ops ok v a ∧ wpR P md ops Q C S L r0 E (a.put ok.dst v) := by
        by_cases Wi : Region.wanted ok (yielded ops a.tmps) = true
        · rw [if_pos Wi, hS k0 ok hok hpu] at h2
          obtain ⟨v, hv, h2⟩ := h2
          exact ⟨v, .inl ⟨Wi, pureO_run hpu (hv w hw)⟩, h2⟩
        · rw [if_neg Wi] at h2
          exact ⟨undef, .inr ⟨by simpa using Wi, rfl⟩, h2⟩
      refine wpAny_first hok hsel (fun _ _ _ h => h) (m + g) listed a w (fun j oj hj hne hun hno => ?_) hready hy (after k0 [] r0 hk0.1 hk0.2.1 hready rfl _ E w hw hE hmono h3)
      have hjs : j < ops.size := (Array.getElem?_eq_some_iff.1 hj).1
      have hnw : Region.waitsFor md ops j k0 = false := by
        cases hw' : Region.waitsFor md ops j k0 with
        | false => rfl
        | true =>
          obtain ⟨o, ho, e, he, hb, heq⟩ := Region.waitsFor_spec hw'
          obtain rfl : o = oj := Option.some.inj (ho.symm.trans hj)
          exact absurd heq (hno e he hb)
      cases hdj : hd j with
      | true =>
        have hmem := (hrem j).2 ⟨hjs, hdj, hun⟩
        have hlt : k0 < j := by
          rcases List.mem_cons.1 hmem with e | hmem
          · exact absurd e hne
          · exact (List.pairwise_cons.1 hp).1 _ hmem
        obtain ⟨oj', hoj', _, hap⟩ := relH_at hB hdj hjs
        obtain rfl : oj' = oj := Option.some.inj (hoj'.symm.trans hj)
        obtain ⟨ok', hok', hap⟩ := hap k0 hlt hk0.2.1
        obtain rfl : ok' = ok := Option.some.inj (hok'.symm.trans hok)
        exact hap.resolve_left (by rw [hnw]; simp)
      | false =>
        exact ((tailH_at htail hdj hj hk0.2.1 hok).1 hpu).resolve_left (by rw [hnw]; simp)
    | false =>
      refine ⟨fun h0 => (by rw [h0] at hready; cases hready), fun i hi => ?_⟩
      have hun := (mem_ready.1 hi).1
      obtain ⟨_, oi, hoi, _⟩ := mem_ready.1 hi
      have his : i < ops.size := (Array.getElem?_eq_some_iff.1 hoi).1
      have hin : hd i = true := by
        cases hdi : hd i with
        | true => rfl
        | false =>
          exact absurd hi (trB_undone hcl hk0.2.2 8 i ((tailH_at htail hdi hoi hk0.2.1 hok).2 hpu)).2
      have hmem : i ∈ k0 :: r0 := (hrem i).2 ⟨his, hin, hun⟩
      obtain ⟨l1, l2, hsp⟩ := List.append_of_mem hmem
      have hlt1 : ∀ k ∈ l1, k < i ∧ hd k = true ∧ listed.getD k true = false := fun k hk => by
        have hpp := hp
        rw [hsp] at hpp
        have hm2 : k ∈ k0 :: r0 := by rw [hsp]; exact List.mem_append_left _ hk
        exact ⟨(List.pairwise_append.1 hpp).2.2 k hk i (List.mem_cons_self ..), ((hrem k).1 hm2).2⟩
      have h2 := h
      rw [hsp] at h2
      have h2 := wpR_front hB hi hin ⟨w, hw⟩ l1 l2 E a hlt1 h2
      have key := after i l1 l2 his hin hi hsp
      unfold wpR at h2
      rw [hoi] at h2
      simp only at h2
      unfold wpOp
      rw [hoi]
      simp only
      by_cases Wi : Region.wanted oi (yielded ops a.tmps) = true
      · rw [if_pos Wi] at h2 ⊢
        cases Si : S i with
        | none =>
          rw [Si] at h2
          obtain ⟨v, hv, h2⟩ := h2
          left
          unfold Oper.wp
          rw [hv w hw]
          exact key _ _ _ hw hE hmono h2
        | some s =>
          rw [Si] at h2
          obtain ⟨hs, h2⟩ := h2
          left
          refine Oper.wp_mono ?_ (hs w hw fun j _ => hE j)
          rintro a' w' ⟨x, rfl, hF, hb⟩
          refine key _ _ _ (hC _ _ hw hb) (fun j => ?_) (fun j w1 w2 hb' he => ?_) (h2 x)
          · unfold envS
            split
            · exact hF
            · exact hmono j _ _ hb (hE j)
          · unfold envS at he ⊢
            split
            · rename_i hj
              rw [if_pos hj] at he
              exact s.mono x _ _ hb' he
            · rename_i hj
              rw [if_neg hj] at he
              exact hmono j _ _ hb' he
      · rw [if_neg Wi] at h2 ⊢
        exact key _ _ _ hw hE hmono h2
end
/-- No pure operation among those with a specification. -/
def pureS (ops : Array Oper) (S : Nat → Option NSpec) : Prop := ∀ k o, ops[k]? = some o → pureO o = true → S k = none
def specs (l : List (Nat × NSpec)) (k : Nat) : Option NSpec := (l.find? fun x => x.1 == k).map (·.2)
def specsB (ops : Array Oper) (l : List Nat) : Bool := l.all fun k => match ops[k]? with
  | none => true
  | some o => !pureO o
theorem specs_pure {ops : Array Oper} {l : List (Nat × NSpec)} (h : specsB ops (l.map (·.1)) = true) : pureS ops (specs l) := by
  intro k o hk hp
  unfold specs
  cases hf : l.find? (fun x => x.1 == k) with
  | none => rfl
  | some x =>
    have h1 := List.find?_some hf
    have h2 := List.mem_of_find?_eq_some hf
    have h3 := List.all_eq_true.1 h x.1 (List.mem_map.2 ⟨x, h2, rfl⟩)
    have e : x.1 = k := by simpa using h1
    rw [e, hk] at h3
    simp only [hp] at h3
    cases h3
def relTailB (md : Region.Mode) (ops : Array Oper) (n : Nat) : Bool :=
  decide (n ≤ ops.size) && relH md ops (fun k => decide (k < n)) && tailH md ops (fun k => decide (k < n)) && Region.seqB md ops (ops.size - n) n (Array.replicate n true ++ Array.replicate (ops.size - n) false)
theorem wp_region_R {P : Program} {id : Nat} {Q : Exit → Act → World → Prop} {a : Act} {w : World} {l : List Oper} (n : Nat) (S : Nat → Option NSpec) (hm : P.follows .mixedOrders = true) (hB : relTailB .any l.toArray n = true) (hS : pureS l.toArray S)
    (h : wpR P .any l.toArray Q (fun w' => ∃ u, w' = ov w u) S (fun E a' => ∀ w', Below w.heap.size w w' → (∀ j, E j w') → wpList P l.toArray (NoPan Q) (l.drop n) a' w') (List.range n) (fun _ _ => True) a) : (Code.region id l.toArray true).wp P Q a w := by
  simp only [relTailB, Bool.and_eq_true, decide_eq_true_eq] at hB
  obtain ⟨⟨⟨hn, hR⟩, htl⟩, hseq⟩ := hB
  refine Code.wp_mono NoPan.imp (wp_region_any hm ?_)
  have hdl : (l.drop n).length = l.toArray.size - n := by simp
  have := wpAny_of_R (P := P) (Q := Q) (md := .any) (C := fun w' => ∃ u, w' = ov w u) (S := S) (g := (l.drop n).length) hR htl (fun w1 w2 ⟨u, hu⟩ hb => by
      subst hu
      exact ⟨w2, ov_of ((ov_below w u).trans (hb.mono (ov_below w u).size))⟩) hS
    (L := fun E a' => ∀ w', Below w.heap.size w w' → (∀ j, E j w') → wpList P l.toArray (NoPan Q) (l.drop n) a' w')
    (fun listed a' E w' hsz hall hL ⟨u, hu⟩ hE => by
      have hT : listed = Array.replicate n true ++ Array.replicate (l.toArray.size - n) false := by
        apply Array.ext_getElem?
        intro j
        rw [Array.getElem?_append, Array.size_replicate]
        by_cases hjs : j < l.toArray.size
        · have hjl : j < listed.size := by omega
          have h1 := hall j hjs
          rw [Array.getD_eq_getD_getElem?, Array.getElem?_eq_getElem hjl, Option.getD_some] at h1
          rw [Array.getElem?_eq_getElem hjl, h1]
          by_cases hj : j < n
          · rw [if_pos hj, Array.getElem?_replicate, if_pos hj, decide_eq_true hj]
          · rw [if_neg hj, Array.getElem?_replicate, if_pos (by omega), decide_eq_false hj]
        · rw [Array.getElem?_eq_none (by omega), if_neg (by omega), Array.getElem?_replicate, if_neg (by omega)]
      rw [hT]
      refine wpAny_of_seq (l.drop n) n _ a' w' (fun j => by simp [List.getElem?_drop]) (by rw [hdl]; exact hseq) ?_
      subst hu
      exact hL _ (ov_below w u) hE)
    n (List.range n) (Array.replicate l.toArray.size false) a (fun _ _ => True) w.drew (by simp) List.pairwise_lt_range (by simp) (fun k => by
      rw [List.mem_range, decide_eq_true_eq]
      refine ⟨fun hk => ⟨by omega, hk, getD_in (by rw [Array.size_replicate]; omega) (getD_replicate_false _ _)⟩, fun hk => hk.2.1⟩)
    (fun t hts _ => getD_in (by rw [Array.size_replicate]; exact hts) (getD_replicate_false _ _)) (fun j oj _ hl => (by rw [getD_replicate_false] at hl; cases hl))
    ⟨w.drew, ov_of ((Below.refl _ _).drew)⟩ (fun _ => trivial) (fun _ _ _ _ _ => trivial) h
  rw [hdl, show n + (l.toArray.size - n) = l.toArray.size by omega] at this
  exact this
/-- One operation (a store) comes behind all that hangs on the world; what hangs on none may come behind it. -/
def relStB (md : Region.Mode) (ops : Array Oper) (t : Nat) : Bool :=
  decide (t < ops.size) && relH md ops (fun k => !(k == t)) && tailH md ops (fun k => !(k == t)) && decide (Region.ready md ops ((Array.replicate ops.size true).setIfInBounds t false) = [t]) && (Region.ready md ops (Array.replicate ops.size true)).isEmpty
/-! ### The walk over the operations themselves -/
def rOp (o : Oper) : Bool := match o.op with
  | .move _ | .load .. | .binOp .. | .unOp .. | .convert .. | .fieldAddr .. | .field .. | .indexAddr .. | .index .. | .build .. | .slice .. | .extract .. | .assign .. | .pick .. => true
  | _ => false
theorem rOp_run {P : Program} {o : Oper} (h : rOp o = true) (ρ : Operand → Value) : ∃ s : Sem Value, ∀ w, (execOp ρ o).run P w = (s.run P w).andThen fun v w' => .ok (.value v) w' := by
  unfold rOp at h
  have hv : ∀ s : Sem Value, ∀ w, (do let x ← s; pure (Next.value x) : Sem Next).run P w = (s.run P w).andThen fun v w' => .ok (.value v) w' := fun s w => by
    simp only [Sem.run_bind, Sem.run_pure]
  unfold execOp
  cases ho : o.op <;> rw [ho] at h <;> first | (exact ⟨_, fun w => hv _ w⟩) | (cases h; done) | skip
  rotate_right
  · rename_i c x y
    refine ⟨do let b ← asBool (ρ c); pure (if b = true then ρ x else ρ y), fun w => ?_⟩
    simp only [Sem.run_bind, Sem.run_pure]
    cases (asBool (ρ c)).run P w <;> rfl
  all_goals first | (exact ⟨pure _, fun w => rfl⟩) | (simp only [Sem.run_pure]; exact ⟨pure _, fun w => by simp only [Sem.run_pure, Result.andThen_ok]⟩)
section
variable {P : Program} {ops : Array Oper} {Q : Exit → Act → World → Prop} {md : Region.Mode} {C : World → Prop} {S : Nat → Option NSpec} {L : (Nat → World → Prop) → Act → Prop}
theorem run_of_quiet {o : Oper} {v : Value} {a : Act} (ho : rOp o = true) (h : ∀ w, C w → o.quietAt P a C w v) : ∀ w, C w → (execOp a.eval o).run P w = .ok (.value v) w := fun w hw => by
  have h1 := h w hw
  unfold Oper.quietAt at h1
  obtain ⟨s, hs⟩ := rOp_run (P := P) ho a.eval
  rw [hs w] at h1 ⊢
  cases hr : s.run P w with
  | ok x w' =>
    rw [hr] at h1
    obtain ⟨e1, e2⟩ : w' = w ∧ x = v := h1
    rw [e1, e2]; rfl
  | halt x w' =>
    rw [hr] at h1
    exact (h1 : False).elim
def wpRL (P : Program) (md : Region.Mode) (ops : Array Oper) (Q : Exit → Act → World → Prop) (C : World → Prop) (S : Nat → Option NSpec) (L : (Nat → World → Prop) → Act → Prop) (l : List Oper) (k : Nat) (E : Nat → World → Prop) (a : Act) : Prop :=
  (∀ j, j < l.length → l[j]? = ops[k + j]?) → wpR P md ops Q C S L (List.range' k l.length) E a
theorem wpRL_nil {k : Nat} {E : Nat → World → Prop} {a : Act} (h : L E a) : wpRL P md ops Q C S L [] k E a := fun _ => h
theorem wpRL_chunk (m : Nat) {l : List Oper} {k : Nat} {E : Nat → World → Prop} {a : Act} (hB : ((l.take m).all rOp && (List.range' k m).all fun i => (S i).isNone) = true)
    (h : wpQuiet P ops C (fun a' => wpRL P md ops Q C S L (l.drop m) (k + m) E a') (l.take m) a) : wpRL P md ops Q C S L l k E a := by
  induction m generalizing l k a with
  | zero =>
    have h' : wpRL P md ops Q C S L (l.drop 0) (k + 0) E a := h
    simpa using h'
  | succ m ih =>
    cases l with
    | nil =>
      intro _
      have h' : wpRL P md ops Q C S L [] (k + (m + 1)) E a := h
      exact h' (fun j hj => absurd hj (by simp))
    | cons o r =>
      intro hl
      simp only [List.take_succ_cons, List.all_cons, Bool.and_eq_true, List.range'_succ, List.drop_succ_cons] at hB h
      obtain ⟨⟨ho, hr⟩, hk, hS⟩ := hB
      have h0 : ops[k]? = some o := by simpa using (hl 0 (by simp)).symm
      have hSk : S k = none := by simpa using hk
      rw [List.length_cons, List.range'_succ]
      have hl' : ∀ j, j < r.length → r[j]? = ops[k + 1 + j]? := fun j hj => by
        have := hl (j + 1) (by simp; omega)
        simpa [Nat.add_assoc, Nat.add_comm 1 j] using this
      have go : ∀ a', wpQuiet P ops C (fun a' => wpRL P md ops Q C S L (r.drop m) (k + (m + 1)) E a') (r.take m) a' → wpR P md ops Q C S L (List.range' (k + 1) r.length) E a' := fun a' h' =>
        ih (by simp only [Bool.and_eq_true]; exact ⟨hr, hS⟩) (by rw [show k + 1 + m = k + (m + 1) by omega]; exact h') hl'
      unfold wpR
      rw [h0]
      simp only
      unfold wpQuiet at h
      by_cases hw : Region.wanted o (yielded ops a.tmps) = true
      · rw [if_pos hw] at h ⊢
        rw [hSk]
        obtain ⟨v, hv, hK⟩ := h
        exact ⟨v, run_of_quiet ho hv, go _ hK⟩
      · rw [if_neg hw] at h ⊢
        exact go _ h
theorem wpRL_skip {o : Oper} {r : List Oper} {k : Nat} {E : Nat → World → Prop} {a : Act} (hw : Region.wanted o (yielded ops a.tmps) = false) (h : wpRL P md ops Q C S L r (k + 1) E (a.put o.dst undef)) : wpRL P md ops Q C S L (o :: r) k E a := by
  intro hl
  have h0 : ops[k]? = some o := by simpa using (hl 0 (by simp)).symm
  rw [List.length_cons, List.range'_succ]
  unfold wpR
  rw [h0]
  simp only
  rw [if_neg (by rw [hw]; decide)]
  exact h fun j hj => by
    have := hl (j + 1) (by simp; omega)
    simpa [Nat.add_assoc, Nat.add_comm 1 j] using this
theorem wpRL_call {o : Oper} {r : List Oper} {k : Nat} {E : Nat → World → Prop} {a : Act} {s : NSpec} (hS : S k = some s) (hw : Region.wanted o (yielded ops a.tmps) = true)
    (hstep : ∀ w, C w → (∀ j, Region.waitsFor md ops k j = true → E j w) → ∀ K : Act → World → Prop, (∀ x w', s.F x w' → Below w.heap.size w w' → K (a.put o.dst (s.f x)) w') → o.wp P a w K (NoPan Q))
    (h : ∀ x, wpRL P md ops Q C S L r (k + 1) (envS E k (s.F x)) (a.put o.dst (s.f x))) : wpRL P md ops Q C S L (o :: r) k E a := by
  intro hl
  have h0 : ops[k]? = some o := by simpa using (hl 0 (by simp)).symm
  rw [List.length_cons, List.range'_succ]
  unfold wpR
  rw [h0]
  simp only
  rw [if_pos hw, hS]
  refine ⟨stepR_of hstep, fun x => h x fun j hj => ?_⟩
  have := hl (j + 1) (by simp; omega)
  simpa [Nat.add_assoc, Nat.add_comm 1 j] using this
end
theorem wpRL_callB {P : Program} {ops : Array Oper} {Q : Exit → Act → World → Prop} {md : Region.Mode} {w0 : World} {S : Nat → Option NSpec} {L : (Nat → World → Prop) → Act → Prop} {o : Oper} {r : List Oper} {k : Nat} {E : Nat → World → Prop} {a : Act} {s : NSpec} (hS : S k = some s) (hw : Region.wanted o (yielded ops a.tmps) = true)
    (hstep : ∀ w, Below w0.heap.size w0 w → (∀ j, Region.waitsFor md ops k j = true → E j w) → ∀ K : Act → World → Prop, (∀ x w', s.F x w' → Below w.heap.size w w' → K (a.put o.dst (s.f x)) w') → o.wp P a w K (NoPan Q))
    (h : ∀ x, wpRL P md ops Q (fun w' => ∃ u, w' = ov w0 u) S L r (k + 1) (envS E k (s.F x)) (a.put o.dst (s.f x))) : wpRL P md ops Q (fun w' => ∃ u, w' = ov w0 u) S L (o :: r) k E a :=
  wpRL_call hS hw (fun w ⟨u, hu⟩ hE => hstep w (by rw [hu]; exact ov_below _ _) hE) h
def detS (v : Value) : NSpec := ⟨Unit, ⟨()⟩, fun _ => v, fun _ _ => True, fun _ _ _ _ h => h⟩
theorem wp_region_RL {P : Program} {id : Nat} {Q : Exit → Act → World → Prop} {a : Act} {w : World} {l : List Oper} (n : Nat) (S : List (Nat × NSpec)) (hm : P.follows .mixedOrders = true) (hB : relTailB .any l.toArray n = true) (hS : specsB l.toArray (S.map (·.1)) = true)
    (h : wpRL P .any l.toArray Q (fun w' => ∃ u, w' = ov w u) (specs S) (fun E a' => ∀ w', Below w.heap.size w w' → (∀ j, E j w') → wpList P l.toArray (NoPan Q) (l.drop n) a' w') (l.take n) 0 (fun _ _ => True) a) : (Code.region id l.toArray true).wp P Q a w := by
  have hn : n ≤ l.length := by
    have hB' := hB
    simp only [relTailB, Bool.and_eq_true, decide_eq_true_eq] at hB'
    simpa using hB'.1.1.1
  have hlen : (l.take n).length = n := by simp; omega
  have h' := h fun j hj => by
    rw [hlen] at hj
    simp [hj]
  rw [hlen, ← List.range_eq_range'] at h'
  exact wp_region_R n (specs S) hm hB (specs_pure hS) h'
/-! ### A call, its act left as it is -/
theorem wp_callF {P : Program} {g : FuncId} {xs : Array Operand} {ats : Array TypeId} {o : Oper} {a : Act} {w : World} {K : Act → World → Prop} {Q : Exit → Act → World → Prop} {vals : Array Value} (ho : o.op = .call { callee := .value (.func g), args := xs, argTypes := ats }) (eg : Go.Proofs.Enters P g) (hv : xs.map a.eval = vals)
    (h : Calls P g vals w fun e w' => ∃ v, e = .returned v ∧ K (a.put o.dst v) w') : o.wp P a w K Q := by
  subst hv
  obtain ⟨dst, op, ty, pos, after, guard⟩ := o
  simp only at ho
  subst ho
  unfold Oper.wp
  rw [execOp_call_go, show (#[] ++ xs.map a.eval ++ #[] : Array Value) = xs.map a.eval by simp, eg]
  exact Calls.mono h fun e w' ⟨v, he, hk⟩ => by subst he; exact hk
theorem wp_lenS {P : Program} {x : Operand} {t e : TypeId} {o : Oper} {a : Act} {w : World} {K : Act → World → Prop} {Q : Exit → Act → World → Prop} {ad : Option Addr} {n c : Nat} (ho : o.op = .call { callee := .builtin .len, args := #[x], argTypes := #[t] }) (ht : P.underlying t = some (.slice e)) (hx : a.eval x = .slice ad n c)
    (h : K (a.put o.dst (.int .i64 n)) w) : o.wp P a w K Q := by
  obtain ⟨dst, op, ty, pos, after, guard⟩ := o
  simp only at ho
  subst ho
  unfold Oper.wp
  have hu := run_underlying ht w
  have key : ∀ ρ : Operand → Value, ρ x = .slice ad n c → (execOp ρ { dst, op := .call { callee := .builtin .len, args := #[x], argTypes := #[t] }, type := ty, pos, after, guard : Oper }).run P w = .ok (.value (.int .i64 n)) w := fun ρ hρ => by
    have hl : (Builtin.len_ #[t] ty #[.slice ad n c]).run P w = .ok (goInt n) w := by simp [Builtin.len_, hu]
    simp [go_sem, hρ, hl]
  have := key a.eval hx
  rw [this]
  exact h
/-! ### A region in the order of its text, operation by operation -/
section
variable {P : Program} {ops : Array Oper} {Q : Exit → Act → World → Prop} {w : World}
theorem wpList_chunk (m : Nat) {l : List Oper} {a : Act} (hB : (l.take m).all rOp = true)
    (h : wpQuiet P ops (fun w' => ∃ u, w' = ov w u) (fun a' => wpList P ops Q (l.drop m) a' w) (l.take m) a) : wpList P ops Q l a w := by
  induction m generalizing l a with
  | zero => exact h
  | succ m ih =>
    cases l with
    | nil => exact h
    | cons o r =>
      simp only [List.take_succ_cons, List.all_cons, Bool.and_eq_true, List.drop_succ_cons] at hB h
      unfold wpQuiet at h
      unfold wpList
      by_cases hw : Region.wanted o (yielded ops a.tmps) = true
      · rw [if_pos hw] at h ⊢
        obtain ⟨v, hv, hK⟩ := h
        left
        unfold Oper.wp
        rw [run_of_quiet hB.1 hv w ⟨w, ov_of (Below.refl _ _)⟩]
        exact ih hB.2 hK
      · rw [if_neg hw] at h ⊢
        exact ih hB.2 h
theorem wpList_callF {g : FuncId} {xs : Array Operand} {ats : Array TypeId} {o : Oper} {r : List Oper} {a : Act} {vals : Array Value} (hw : Region.wanted o (yielded ops a.tmps) = true) (ho : o.op = .call { callee := .value (.func g), args := xs, argTypes := ats }) (eg : Go.Proofs.Enters P g) (hv : xs.map a.eval = vals)
    (h : Calls P g vals w fun e w' => ∃ v, e = .returned v ∧ wpList P ops Q r (a.put o.dst v) w') : wpList P ops Q (o :: r) a w := by
  unfold wpList
  rw [if_pos hw]
  exact .inl (wp_callF ho eg hv h)
theorem wpList_lenS {x : Operand} {t e : TypeId} {o : Oper} {r : List Oper} {a : Act} {ad : Option Addr} {n c : Nat} (hw : Region.wanted o (yielded ops a.tmps) = true) (ho : o.op = .call { callee := .builtin .len, args := #[x], argTypes := #[t] }) (ht : P.underlying t = some (.slice e)) (hx : a.eval x = .slice ad n c)
    (h : wpList P ops Q r (a.put o.dst (.int .i64 n)) w) : wpList P ops Q (o :: r) a w := by
  unfold wpList
  rw [if_pos hw]
  exact .inl (wp_lenS ho ht hx h)
end
end Go.Proofs.Ytppccnjckiedlaa
/- Specifications of values that are rasters, for regions that draw their order; the full raster's validity. -/
namespace Go.Proofs.Ytppccnjckiedlaa
open Go.RowKit Go.Shelf Pl
set_option linter.unusedVariables false
set_option linter.unusedSimpArgs false
set_option maxRecDepth 20000

def rasS (L : List TA) : NSpec := ⟨Option Addr × Nat, ⟨(none, 0)⟩, fun x => .agg #[.slice x.1 L.length x.2], fun x w => RS (.slice x.1 L.length x.2) L w, fun _ _ _ hb h => h.below hb⟩
def tupS (L : List TA) (n : Int) : NSpec := ⟨Option Addr × Nat, ⟨(none, 0)⟩, fun x => .tuple #[.agg #[.slice x.1 L.length x.2], .int .i64 n], fun x w => RS (.slice x.1 L.length x.2) L w, fun _ _ _ hb h => h.below hb⟩
def gotS (L : List TA) (n : Int) : NSpec := ⟨Option Addr × Nat, ⟨(none, 0)⟩, fun x => .agg #[.slice x.1 L.length x.2, .int .i64 n], fun x w => RS (.slice x.1 L.length x.2) L w, fun _ _ _ hb h => h.below hb⟩
def ptrS (n : Nat) (t : TypeId) (cs : Array Value) : NSpec := ⟨Nat, ⟨0⟩, fun b => .pointer (some ⟨b, 0, none⟩), fun b w => n ≤ b ∧ AtB t w b cs, fun _ _ _ hb h => ⟨h.1, h.2.of_eq (hb.block _ h.2.lt)⟩⟩
theorem len_maxLen {n : Nat} (h : n ≤ 2000) : n ≤ maxLen := by unfold maxLen; omega
/-! ### The contracts at lists that are known to be valid; results told by another word -/
theorem eqls_px (p : Px) (w : World) : (binOp .eql 37 (Px.v p) (Px.v p)).run Try.prog w = .ok (.bool true) w := by rw [eql_px, decide_eq_true rfl]
end Go.Proofs.Ytppccnjckiedlaa
/- Contract of gouacheref08.Near. -/
namespace Go.Proofs.Ytppccnjckiedlaa
open Go.RowKit Go.Shelf Pl
set_option linter.unusedVariables false
set_option linter.unusedSimpArgs false
set_option maxRecDepth 20000
def nearR (c : Rc) : Rc := ⟨c.x0 % 64 - 30, c.y0 % 64 - 30, c.x0 % 64 - 30 + 1 + c.x1 % 32, c.y0 % 64 - 30 + 1 + c.y1 % 32⟩
theorem nearR_bd (c : Rc) : -30 ≤ (nearR c).x0 ∧ (nearR c).x0 ≤ 33 ∧ -30 ≤ (nearR c).y0 ∧ (nearR c).y0 ≤ 33 ∧ (nearR c).x0 < (nearR c).x1 ∧ (nearR c).x1 ≤ (nearR c).x0 + 32 ∧ (nearR c).y0 < (nearR c).y1 ∧ (nearR c).y1 ≤ (nearR c).y0 + 32 := by
  unfold nearR
  simp only
  omega
set_option maxHeartbeats 1000000 in
theorem R_Near (c : Rc) (w : World) : Calls Try.prog 32 #[Rc.v c] w fun e w' => e = .returned (Rc.v (nearR c)) ∧ Below w.heap.size w w' := by
  have B := Below.refl w.heap.size w
  obtain ⟨x0, y0, x1, y1⟩ := c
  have b1 := bits_and63 x0
  have b2 := bits_and63 y0
  have b3 := bits_and31 x1
  have b4 := bits_and31 y1
  simp only [Rc.v_A, rcA]
  go_enter Try.func32, Try.ntmps32
  go_wp2_with (first | (refine wpList_storeB (t := 64) rfl _ _ rfl _ rfl _ rfl r2 (by kernel_rfl) rfl (by simp [rcA, Value.oneCell']) ?_; clear r2; intro wn ht hcn hzn; have hsz := B.size; replace hzn := Nat.le_of_eq hzn.symm; replace B := Chg.below B hcn (by omega) B.size; (try replace q1 := q1.of_eq (hcn.block _ q1.lt (by omega))); have r2 := ht; clear ht; simp only [Act.put, putS]) | (refine wpList_loadAny (t := 3) rfl _ rfl _ _ _ rfl (run_load_int (q1.cell 0 rfl)) (by rfl) ?_; simp only [Act.put, putS]) | (refine wpList_loadAny (t := 3) rfl _ rfl _ _ _ rfl (run_load_int (q1.cell 1 rfl)) (by rfl) ?_; simp only [Act.put, putS]) | (refine wpList_loadAny (t := 3) rfl _ rfl _ _ _ rfl (run_load_int (q1.cell 2 rfl)) (by rfl) ?_; simp only [Act.put, putS]) | (refine wpList_loadAny (t := 3) rfl _ rfl _ _ _ rfl (run_load_int (q1.cell 3 rfl)) (by rfl) ?_; simp only [Act.put, putS]) | (have _ := q1; refine wpList_allocBk (t := 64) rfl _ (run_alloc_Rc _ _ rfl) ?_; intro b_r2 wn hle hge ht hbn hzn; have hsz := B.size; replace B := B.trans (hbn.mono (by omega)); have hln := Nat.lt_of_lt_of_eq (Nat.lt_succ_self _) hzn.symm; clear hzn; (try first | (have hlt := q1.lt; replace q1 := q1.of_eq (hbn.block _ (by omega))) | replace q1 := q1.below (hbn.mono hle)); (try first | (have hlt := r2.lt; replace r2 := r2.of_eq (hbn.block _ (by omega))) | replace r2 := r2.below (hbn.mono hle)); have r2 := ht; clear ht; simp only [Act.put, putS]) | (refine wpList_boxB (t := 64) rfl _ rfl _ rfl ?_; intro b_q1 wn hle hge ht hbn hzn; have hsz := B.size; replace B := B.trans (hbn.mono (by omega)); have hln := Nat.lt_of_lt_of_eq (Nat.lt_succ_self _) hzn.symm; clear hzn; (try first | (have hlt := q1.lt; replace q1 := q1.of_eq (hbn.block _ (by omega))) | replace q1 := q1.below (hbn.mono hle)); (try first | (have hlt := r2.lt; replace r2 := r2.of_eq (hbn.block _ (by omega))) | replace r2 := r2.below (hbn.mono hle)); have q1 := ht; clear ht; simp only [Act.put, putS]) | fail)
  refine bodyPost_ret (results_B (t := 64) rfl _ _ (b_r2) rfl r2 Try.isAgg64 (by kernel_rfl)) rfl ?_
  exact ⟨rfl, B⟩
@[go_sem] theorem run_field_a (p0 p1 p2 pa : Int) (w : World) : (Instr.field 37 (.agg #[.int .u8 p0, .int .u8 p1, .int .u8 p2, .int .u8 pa]) 3).run Try.prog w = .ok (.int .u8 pa) w := by kernel_rfl
end Go.Proofs.Ytppccnjckiedlaa
/- Pairs of integers as blocks; one byte of a tile stored; contracts of Set and Put with a result told. -/
namespace Go.Proofs.Ytppccnjckiedlaa
open Go.RowKit Go.Shelf Pl
set_option linter.unusedVariables false
set_option linter.unusedSimpArgs false
set_option maxRecDepth 20000
def i2 (a b : Int) (k : Nat) : Int := if k = 0 then a else b
theorem AtB.cellL {t : TypeId} {w : World} {b : Nat} {l : List Value} (h : AtB t w b l.toArray) (i : Nat) {v : Value} (hv : l[i]? = some v) : w.cell? ⟨b, i, none⟩ = some v := h.cell i (by simpa using hv)
theorem RS.chgP {v : Value} {ls : List TA} {b : Nat} {p : Px} {w w' : World} (h : RS v ls w) (hb : PixAt w b p) (hc : Chg b w w') : RS v ls w' :=
  RS.chg (t := 37) (cs := pxA p) h hb (by simp [pxA]) hc
end Go.Proofs.Ytppccnjckiedlaa
/- Plain laws: how many tiles there are behind put; the full raster. -/
namespace Go.Proofs.Ytppccnjckiedlaa
open Go.RowKit Pl
set_option linter.unusedVariables false
set_option linter.unusedSimpArgs false
theorem srt_at {ls : List TA} (h : Srt ls) {i j : Nat} (hij : i < j) (hj : j < ls.length) : beforeA (aT ls i) (aT ls j) = true := by
  have hi : i < ls.length := Nat.lt_trans hij hj
  have e : ∀ k (hk : k < ls.length), aT ls k = ls[k] := fun k hk => by
    have := aT_at hk
    rw [List.getElem?_eq_getElem hk] at this
    exact (Option.some.inj this).symm
  rw [e i hi, e j hj]
  exact List.pairwise_iff_getElem.1 h i j hi hj hij
/-- The tile of the law: its first pixel opaque. -/
def limT (Ls : List Int) : Nat → Px := upd (madeT Ls) 0 ⟨0, 0, 3, 255⟩
def F24 : List TA := fullL 1024
end Go.Proofs.Ytppccnjckiedlaa
/- Plain: the pixels that Image makes are the raster's pixels, row by row. -/
namespace Go.Proofs.Ytppccnjckiedlaa
open Go.RowKit Pl
set_option linter.unusedVariables false
set_option linter.unusedSimpArgs false
/-- The pixel number j of a rectangle. -/
def widN (c : Rc) : Nat := (c.x1 - c.x0).toNat
def pxX (c : Rc) (j : Nat) : Int := c.x0 + ((j % widN c : Nat) : Int)
def pxY (c : Rc) (j : Nat) : Int := c.y0 + ((j / widN c : Nat) : Int)
def imgL (c : Rc) (ks : List TA) : List Px := (List.range (areaN c)).map fun j => getL ks (pxX c j) (pxY c j)
theorem imgL_len (c : Rc) (ks : List TA) : (imgL c ks).length = areaN c := by unfold imgL; rw [List.length_map, List.length_range]
theorem imgL_at (c : Rc) (ks : List TA) {j : Nat} (hj : j < areaN c) : (imgL c ks)[j]? = some (getL ks (pxX c j) (pxY c j)) := by
  unfold imgL
  rw [List.getElem?_map, List.getElem?_range hj]
  rfl
theorem area_wid {c : Rc} (hf : Fits c) : areaN c = widN c * (c.y1 - c.y0).toNat ∧ 0 < widN c := by
  have h1 := hf.h1
  have h2 := hf.h2
  obtain ⟨W, hW⟩ : ∃ W : Nat, c.x1 - c.x0 = (W : Int) := ⟨(c.x1 - c.x0).toNat, by omega⟩
  obtain ⟨H, hH⟩ : ∃ H : Nat, c.y1 - c.y0 = (H : Int) := ⟨(c.y1 - c.y0).toNat, by omega⟩
  unfold areaN widN
  rw [hW, hH, ← Int.natCast_mul, Int.toNat_natCast, Int.toNat_natCast, Int.toNat_natCast]
  exact ⟨rfl, by omega⟩
theorem px_in {c : Rc} (hf : Fits c) {j : Nat} (hj : j < areaN c) : hasR c (pxX c j) (pxY c j) = true := by
  obtain ⟨ea, hw⟩ := area_wid hf
  have hm := Nat.mod_lt j hw
  have hd : j / widN c < (c.y1 - c.y0).toNat := Nat.div_lt_of_lt_mul (by rw [← ea]; exact hj)
  rw [hasR_iff]
  unfold pxX pxY
  have hw' : widN c = (c.x1 - c.x0).toNat := rfl
  generalize j % widN c = u at hm ⊢
  generalize j / widN c = v at hd ⊢
  have := hf.h1
  have := hf.h2
  omega
/-- The index of a pixel, and back. -/
theorem idx_px {c : Rc} (hf : Fits c) {j : Nat} (hj : j < areaN c) {x y : Int} (hh : hasR c x y = true) : (idxI c x y).toNat = j ↔ x = pxX c j ∧ y = pxY c j := by
  obtain ⟨ea, hw⟩ := area_wid hf
  have hr := (hasR_iff c x y).1 hh
  obtain ⟨u, hu⟩ : ∃ u : Nat, x - c.x0 = (u : Int) := ⟨(x - c.x0).toNat, by omega⟩
  obtain ⟨v, hv⟩ : ∃ v : Nat, y - c.y0 = (v : Int) := ⟨(y - c.y0).toNat, by omega⟩
  have hwi : c.x1 - c.x0 = (widN c : Int) := by unfold widN; have := hf.h1; omega
  have e : (idxI c x y).toNat = v * widN c + u := by
    have : idxI c x y = ((v * widN c + u : Nat) : Int) := by
      unfold idxI
      rw [hwi, hv]
      have : (v : Int) * (widN c : Int) + x - c.x0 = (v : Int) * (widN c : Int) + (u : Int) := by omega
      rw [this]
      simp
    rw [this]
    exact Int.toNat_natCast _
  have hul : u < widN c := by omega
  rw [e]
  unfold pxX pxY
  constructor
  · intro h
    have hm : j % widN c = u := by rw [← h, Nat.mul_comm, Nat.mul_add_mod]; exact Nat.mod_eq_of_lt hul
    have hd : j / widN c = v := by rw [← h, Nat.mul_comm, Nat.mul_add_div hw, Nat.div_eq_of_lt hul]; omega
    rw [hm, hd]
    omega
  · rintro ⟨hx, hy⟩
    have hu' : u = j % widN c := by omega
    have hv' : v = j / widN c := by omega
    rw [hu', hv', Nat.mul_comm]
    exact Nat.div_add_mod j (widN c)
/-- The place of a pixel in its tile. -/
def inT (x y : Int) : Nat := (8 * (y % 8) + x % 8).toNat
theorem runT_img {c : Rc} (hf : Fits c) (e : TA) {s : List Px} (hs : s.length = areaN c) {j : Nat} (hj : j < areaN c) : ∀ m, m ≤ 64 → (runT (imgF c) e m s).1.length = areaN c ∧ (runT (imgF c) e m s).1[j]? = if eqB e.x e.y (pxX c j / 8) (pxY c j / 8) = true ∧ inT (pxX c j) (pxY c j) < m then some (e.t (inT (pxX c j) (pxY c j))) else s[j]?
  | 0, _ => ⟨hs, by rw [if_neg (fun h => absurd h.2 (Nat.not_lt_zero _))]; rfl⟩
  | m + 1, hm => by
    obtain ⟨hl, ih⟩ := runT_img hf e hs hj m (by omega)
    show (if hasR c (e.x * 8 + (m : Int) % 8) (e.y * 8 + (m : Int) / 8) = true then (runT (imgF c) e m s).1.set (idxI c (e.x * 8 + (m : Int) % 8) (e.y * 8 + (m : Int) / 8)).toNat (e.t m) else (runT (imgF c) e m s).1).length = _ ∧
      (if hasR c (e.x * 8 + (m : Int) % 8) (e.y * 8 + (m : Int) / 8) = true then (runT (imgF c) e m s).1.set (idxI c (e.x * 8 + (m : Int) % 8) (e.y * 8 + (m : Int) / 8)).toNat (e.t m) else (runT (imgF c) e m s).1)[j]? = _
    by_cases hh : hasR c (e.x * 8 + (m : Int) % 8) (e.y * 8 + (m : Int) / 8) = true
    · rw [if_pos hh]
      refine ⟨by rw [List.length_set]; exact hl, ?_⟩
      rw [List.getElem?_set]
      have hi := idx_px hf hj hh
      by_cases h1 : (idxI c (e.x * 8 + (m : Int) % 8) (e.y * 8 + (m : Int) / 8)).toNat = j
      · obtain ⟨ex, ey⟩ := hi.1 h1
        rw [if_pos h1, if_pos (by rw [h1, hl]; exact hj), ← ex, ← ey, if_pos ⟨decide_eq_true (by omega), by unfold inT; omega⟩]
        congr 2
        unfold inT
        omega
      · have hn := fun h => h1 (hi.2 h)
        rw [if_neg h1, ih]
        by_cases h2 : eqB e.x e.y (pxX c j / 8) (pxY c j / 8) = true ∧ inT (pxX c j) (pxY c j) < m
        · rw [if_pos h2, if_pos ⟨h2.1, by omega⟩]
        · rw [if_neg h2, if_neg (fun h3 => ?_)]
          have hq := of_decide_eq_true h3.1
          have h4 : inT (pxX c j) (pxY c j) = m := by
            rcases Nat.lt_or_ge (inT (pxX c j) (pxY c j)) m with h5 | h5
            · exact absurd ⟨h3.1, h5⟩ h2
            · omega
          unfold inT at h4
          exact hn ⟨by omega, by omega⟩
    · rw [if_neg hh]
      refine ⟨hl, ?_⟩
      rw [ih]
      by_cases h2 : eqB e.x e.y (pxX c j / 8) (pxY c j / 8) = true ∧ inT (pxX c j) (pxY c j) < m
      · rw [if_pos h2, if_pos ⟨h2.1, by omega⟩]
      · rw [if_neg h2, if_neg (fun h3 => ?_)]
        have hq := of_decide_eq_true h3.1
        have h4 : inT (pxX c j) (pxY c j) = m := by
          rcases Nat.lt_or_ge (inT (pxX c j) (pxY c j)) m with h5 | h5
          · exact absurd ⟨h3.1, h5⟩ h2
          · omega
        unfold inT at h4
        apply hh
        have := px_in hf hj
        rw [show e.x * 8 + (m : Int) % 8 = pxX c j by omega, show e.y * 8 + (m : Int) / 8 = pxY c j by omega]
        exact this
theorem tileL_snoc (a : List TA) (e : TA) (x y : Int) (h : eqB e.x e.y x y = false) : tileL (a ++ [e]) x y = tileL a x y := by
  induction a with
  | nil => show (if eqB e.x e.y x y = true then e.t else zT) = zT; rw [h]; rfl
  | cons b r ih =>
    show (if eqB b.x b.y x y = true then b.t else tileL (r ++ [e]) x y) = if eqB b.x b.y x y = true then b.t else tileL r x y
    rw [ih]
theorem mapK_img {c : Rc} (hf : Fits c) {ks : List TA} (hs : Srt ks) {j : Nat} (hj : j < areaN c) : ∀ k, k ≤ ks.length → (mapK (imgF c) ks (List.replicate (areaN c) Px.zero) k).1.length = areaN c ∧ (mapK (imgF c) ks (List.replicate (areaN c) Px.zero) k).1[j]? = some (getL (ks.take k) (pxX c j) (pxY c j))
  | 0, _ => by
    refine ⟨List.length_replicate .., ?_⟩
    show (List.replicate (areaN c) Px.zero)[j]? = some (tileL [] _ _ _)
    rw [List.getElem?_replicate, if_pos hj]
    rfl
  | k + 1, hk => by
    obtain ⟨hl, ih⟩ := mapK_img hf hs hj k (by omega)
    have hr := runT_img hf (aT ks k) hl hj 64 (Nat.le_refl _)
    refine ⟨hr.1, hr.2.trans ?_⟩
    have ht : ks.take (k + 1) = ks.take k ++ [aT ks k] := by
      rw [List.take_add_one, aT_at (show k < ks.length from hk)]
      rfl
    have h64 : inT (pxX c j) (pxY c j) < 64 := by unfold inT; omega
    rw [ht]
    unfold getL
    by_cases he : eqB (aT ks k).x (aT ks k).y (pxX c j / 8) (pxY c j / 8) = true
    · rw [if_pos ⟨he, h64⟩, tileL_append]
      · show _ = some ((if eqB (aT ks k).x (aT ks k).y (pxX c j / 8) (pxY c j / 8) = true then (aT ks k).t else zT) _)
        rw [if_pos he]
        rfl
      · intro b hb
        obtain ⟨i, hi⟩ := List.mem_iff_getElem?.1 hb
        have hik : i < k := by
          have := (List.getElem?_eq_some_iff.1 hi).1
          rw [List.length_take] at this
          omega
        rw [List.getElem?_take_of_lt hik, aT_at (by omega)] at hi
        obtain rfl := Option.some.inj hi
        have hlt := srt_at hs hik (show k < ks.length from hk)
        have hq := of_decide_eq_true he
        have hlt := of_decide_eq_true hlt
        exact decide_eq_false (by omega)
    · rw [if_neg (fun h => he h.1), ih, tileL_snoc _ _ _ _ (by simpa using he)]
      rfl
/-- What Image makes of a valid raster. -/
theorem imgPL_eq {c : Rc} (hf : Fits c) {ks : List TA} (hv : validL ks = true) : imgPL c ks = imgL c ks := by
  apply List.ext_getElem?
  intro j
  by_cases hj : j < areaN c
  · have := (mapK_img hf (validL_srt hv) hj ks.length (Nat.le_refl _)).2
    rw [List.take_length] at this
    rw [imgL_at c ks hj]
    exact this
  · have e2 : (imgL c ks)[j]? = none := List.getElem?_eq_none (by rw [imgL_len]; omega)
    rw [e2]
    apply List.getElem?_eq_none
    have hz : 0 < areaN c := by have := (area_bd hf).1; omega
    have := (mapK_img hf (validL_srt hv) hz ks.length (Nat.le_refl _)).1
    show (mapK (imgF c) ks (List.replicate (areaN c) Px.zero) ks.length).1.length ≤ j
    omega
end Go.Proofs.Ytppccnjckiedlaa
/- Plain: a raster after pixel updates, by its pixels; grids of 32 times 32 pixels. -/
namespace Go.Proofs.Ytppccnjckiedlaa
open Go.RowKit Pl
set_option linter.unusedVariables false
set_option linter.unusedSimpArgs false
/-- A pixel update, as the law sends it. -/
structure Dt where
  x : Int
  y : Int
  p : Px
/-- All positions lie near the origin. -/
def Small (r : List TA) : Prop := ∀ e ∈ r, -2 ≤ e.x ∧ e.x ≤ 1 ∧ -2 ≤ e.y ∧ e.y ≤ 1
theorem cleanP_idem (p : Px) : cleanP (cleanP p) = cleanP p := by
  unfold cleanP
  split
  · split <;> rfl
  · rfl
section
variable {r : List TA} {X Y : Int} {p : Px} (hv : validL r = true) (hs : Small r) (hX : -16 ≤ X ∧ X ≤ 15) (hY : -16 ≤ Y ∧ Y ≤ 15)
end
/-- The raster after the first k updates. -/
def dotX (d : Dt) : Int := d.x % 32 - 16
def dotY (d : Dt) : Int := d.y % 32 - 16
def dAt (l : List Dt) (k : Nat) : Dt := l.getD k ⟨0, 0, Px.zero⟩
def dotR (l : List Dt) : Nat → List TA
  | 0 => []
  | k + 1 => setR (dotR l k) (dotX (dAt l k)) (dotY (dAt l k)) (dAt l k).p
/-- The pixels wanted. -/
def dotW (l : List Dt) : Nat → Nat → Px
  | 0 => fun _ => Px.zero
  | k + 1 => upd (dotW l k) (((dAt l k).y % 32).toNat * 32 + ((dAt l k).x % 32).toNat) (cleanP (dAt l k).p)
/-! ### Grids -/
def gridC (f : Nat → Px) : Array Value := Array.ofFn (n := 4096) fun k => pxC (f (k.val / 4)) (k.val % 4)
end Go.Proofs.Ytppccnjckiedlaa
/- The pixel at a column and a row of a rectangle. -/
namespace Go.Proofs.Ytppccnjckiedlaa
open Go.RowKit Go.Shelf Pl
theorem px_xy {c : Rc} (hf : Fits c) {X Y : Nat} (hX : (X : Int) < c.x1 - c.x0) (hY : (Y : Int) < c.y1 - c.y0) : ∃ k : Nat, (k : Int) = (Y : Int) * (c.x1 - c.x0) + (X : Int) ∧ k < areaN c ∧ pxX c k = c.x0 + X ∧ pxY c k = c.y0 + Y := by
  obtain ⟨ea, hw⟩ := area_wid hf
  have hwi : c.x1 - c.x0 = (widN c : Int) := by unfold widN; have := hf.h1; omega
  have hX' : X < widN c := by omega
  refine ⟨Y * widN c + X, by rw [hwi]; simp, ?_, ?_, ?_⟩
  · have h : (Y + 1) * widN c ≤ (c.y1 - c.y0).toNat * widN c := Nat.mul_le_mul_right _ (by omega)
    rw [Nat.add_mul, Nat.one_mul] at h
    rw [ea, Nat.mul_comm (widN c)]
    omega
  · unfold pxX
    rw [Nat.add_comm, Nat.add_mul_mod_self_right, Nat.mod_eq_of_lt hX']
  · unfold pxY
    rw [Nat.add_comm, Nat.add_mul_div_right _ _ hw, Nat.div_eq_of_lt hX', Nat.zero_add]
end Go.Proofs.Ytppccnjckiedlaa
/- Plain: the positions of a rectangle's tiles; what Paste computes. -/
namespace Go.Proofs.Ytppccnjckiedlaa
open Go.RowKit Pl
set_option linter.unusedVariables false
set_option linter.unusedSimpArgs false
/-- The rectangle of the tiles that a rectangle meets. -/
def tlR (c : Rc) : Rc := ⟨c.x0 / 8, c.y0 / 8, (c.x1 - 1) / 8 + 1, (c.y1 - 1) / 8 + 1⟩
theorem tl_fits {c : Rc} (h : Fits c) : Fits (tlR c) := by
  obtain ⟨a1, a2, a3, a4, a5, a6, a7, a8⟩ := h
  refine ⟨?_, ?_, ?_, ?_, ?_, ?_, ?_, ?_⟩ <;> (unfold tlR; simp only; omega)
def tlN (c : Rc) : Nat := areaN (tlR c)
theorem tlN_le {c : Rc} (h : Fits c) : tlN c ≤ 1089 := by
  have e := (area_wid (tl_fits h)).1
  obtain ⟨a1, a2, a3, a4, a5, a6, a7, a8⟩ := h
  unfold tlN
  rw [e]
  have h1 : widN (tlR c) ≤ 33 := by unfold widN tlR; simp only; omega
  have h2 : ((tlR c).y1 - (tlR c).y0).toNat ≤ 33 := by unfold tlR; simp only; omega
  exact Nat.mul_le_mul h1 h2
def posP (c : Rc) (k : Nat) : Int × Int := (pxX (tlR c) k, pxY (tlR c) k)
def posL (c : Rc) : List (Int × Int) := (List.range (tlN c)).map (posP c)
theorem posL_len (c : Rc) : (posL c).length = tlN c := by unfold posL; rw [List.length_map, List.length_range]
theorem posP_in {c : Rc} (hf : Fits c) {k : Nat} (hk : k < tlN c) : withinB (posP c k).1 (posP c k).2 = true := by
  have h := (hasR_iff _ _ _).1 (px_in (tl_fits hf) hk)
  have h3 := hf.h3
  have h4 := hf.h4
  have h5 := hf.h5
  have h6 := hf.h6
  unfold posP
  refine decide_eq_true ?_
  unfold tlR at h
  simp only at h ⊢
  unfold tlR
  omega
theorem posL_in {c : Rc} (hf : Fits c) : ∀ p ∈ posL c, withinB p.1 p.2 = true := fun p hp => by
  obtain ⟨k, hk, rfl⟩ := List.mem_map.1 hp
  exact posP_in hf (List.mem_range.1 hk)
theorem posP_inj {c : Rc} (hf : Fits c) {j k : Nat} (h : posP c j = posP c k) : j = k := by
  have hw := (area_wid (tl_fits hf)).2
  unfold posP pxX pxY at h
  injection h with h1 h2
  have e1 : j % widN (tlR c) = k % widN (tlR c) := by omega
  have e2 : j / widN (tlR c) = k / widN (tlR c) := by omega
  rw [← Nat.div_add_mod j (widN (tlR c)), ← Nat.div_add_mod k (widN (tlR c)), e1, e2]
theorem posL_nodup {c : Rc} (hf : Fits c) : (posL c).Nodup := by
  unfold posL
  exact List.Pairwise.map _ (fun a b hab e => hab (posP_inj hf e)) List.nodup_range

/-! ### Pasting -/
def pixL (c : Rc) (L : List Px) (X Y : Int) : Px := L.getD (idxI c X Y).toNat Px.zero
def pstP (c : Rc) (L : List Px) (X Y : Int) (p : Px) : Px := if hasR c X Y = true then cleanP (pixL c L X Y) else p
def pstT (c : Rc) (L : List Px) (x y : Int) (t : Nat → Px) : Nat → Px := fun i => if i < 64 then pstP c L (x * 8 + (i : Int) % 8) (y * 8 + (i : Int) / 8) (t i) else t i
def pstF (c : Rc) (L : List Px) (_ : Unit) (X Y : Int) (p : Px) : Unit × Px := ((), pstP c L X Y p)
theorem runT_pst (c : Rc) (L : List Px) (e : TA) : ∀ k, ∀ i, (runT (pstF c L) e k ()).2 i = if i < k then pstP c L (e.x * 8 + (i : Int) % 8) (e.y * 8 + (i : Int) / 8) (e.t i) else e.t i
  | 0, i => by rw [if_neg (by omega)]; rfl
  | k + 1, i => by
    show upd (runT (pstF c L) e k ()).2 k (pstP c L (e.x * 8 + (k : Int) % 8) (e.y * 8 + (k : Int) / 8) (e.t k)) i = _
    unfold upd
    by_cases h : i = k
    · subst h
      rw [if_pos rfl, if_pos (Nat.lt_succ_self _)]
    · rw [if_neg h, runT_pst c L e k i]
      by_cases h2 : i < k
      · rw [if_pos h2, if_pos (Nat.lt_succ_of_lt h2)]
      · rw [if_neg h2, if_neg (show ¬ i < k + 1 from by omega)]
theorem runT_pst64 (c : Rc) (L : List Px) (e : TA) : (runT (pstF c L) e 64 ()).2 = pstT c L e.x e.y e.t := funext fun i => runT_pst c L e 64 i
theorem mapK_pst (c : Rc) (L : List Px) (e : TA) : (mapK (pstF c L) [e] () 1).2 = newA e.x e.y (pstT c L e.x e.y e.t) := by
  show [] ++ newA (aT [e] 0).x (aT [e] 0).y (runT (pstF c L) (aT [e] 0) 64 ()).2 = _
  have h : aT [e] 0 = e := rfl
  rw [h, runT_pst64, List.nil_append]
def OkL (L : List Px) : Prop := ∀ p ∈ L, p.ok
theorem pixL_ok {c : Rc} {L : List Px} (h : OkL L) (X Y : Int) : (pixL c L X Y).ok := by
  unfold pixL
  rw [List.getD_eq_getElem?_getD]
  cases hk : L[(idxI c X Y).toNat]? with
  | none => exact Px.zero_ok
  | some p => exact h p (List.mem_of_getElem? hk)
theorem pstP_ok {c : Rc} {L : List Px} (h : OkL L) (X Y : Int) (p : Px) (hp : p.ok) : (pstP c L X Y p).ok := by
  unfold pstP
  split
  · exact cleanP_ok (pixL_ok h X Y)
  · exact hp
theorem pstT_tok {c : Rc} {L : List Px} (h : OkL L) (x y : Int) {t : Nat → Px} (ht : Tok t) : Tok (pstT c L x y t) := fun i hi => by
  unfold pstT
  rw [if_pos hi]
  exact pstP_ok h _ _ _ (ht i hi)
def CleanL (ls : List TA) : Prop := ∀ e ∈ ls, eqT (cleanT e.t) e.t = true
theorem tileL_cleanL {ls : List TA} (h : CleanL ls) (x y : Int) {i : Nat} (hi : i < 64) : cleanP (tileL ls x y i) = tileL ls x y i := by
  rcases tileL_some ls x y with e | ⟨e, he, _, _, ht⟩
  · rw [e]; rfl
  · rw [ht]
    exact eqT_at (h e he) hi
theorem valid_clean {ls : List TA} (h : validL ls = true) : CleanL ls := fun e he => ((goodA_iff e).1 (validL_good h e he)).2.2
theorem pstT_clean (c : Rc) (L : List Px) (x y : Int) {t : Nat → Px} (h : ∀ i, i < 64 → cleanP (t i) = t i) : ∀ i, i < 64 → cleanP (pstT c L x y t i) = pstT c L x y t i := fun i hi => by
  unfold pstT
  rw [if_pos hi]
  unfold pstP
  split
  · exact cleanP_idem _
  · exact h i hi
def pst1 (c : Rc) (L : List Px) (ls : List TA) (p : Int × Int) : List TA := putL ls p.1 p.2 (pstT c L p.1 p.2 (tileL ls p.1 p.2))
def pstL (c : Rc) (L : List Px) (ls : List TA) (ps : List (Int × Int)) : List TA := ps.foldl (pst1 c L) ls
theorem pstL_snoc (c : Rc) (L : List Px) (ls : List TA) (ps : List (Int × Int)) (p : Int × Int) : pstL c L ls (ps ++ [p]) = pst1 c L (pstL c L ls ps) p := by unfold pstL; rw [List.foldl_append]; rfl
theorem pstL_cons (c : Rc) (L : List Px) (ls : List TA) (p : Int × Int) (ps : List (Int × Int)) : pstL c L ls (p :: ps) = pstL c L (pst1 c L ls p) ps := rfl
theorem pstL_len (c : Rc) (L : List Px) (ps : List (Int × Int)) : ∀ ls, (pstL c L ls ps).length ≤ ls.length + ps.length := by
  induction ps with
  | nil => intro ls; exact Nat.le_refl _
  | cons p r ih =>
    intro ls
    rw [pstL_cons]
    have h1 := ih (pst1 c L ls p)
    have h2 := putL_length ls p.1 p.2 (pstT c L p.1 p.2 (tileL ls p.1 p.2))
    rw [List.length_cons]
    unfold pst1 at h1 ⊢
    omega
theorem pstL_srt (c : Rc) (L : List Px) (ps : List (Int × Int)) : ∀ ls, Srt ls → Srt (pstL c L ls ps) := by
  induction ps with
  | nil => intro ls h; exact h
  | cons p r ih => intro ls h; exact ih _ (putL_srt h)
theorem pstL_tok {c : Rc} {L : List Px} (hL : OkL L) (ps : List (Int × Int)) : ∀ ls, TokL ls → TokL (pstL c L ls ps) := by
  induction ps with
  | nil => intro ls h; exact h
  | cons p r ih => intro ls h; exact ih _ (putL_tok h (pstT_tok hL _ _ (tileL_tok h _ _)))
theorem pstL_good (c : Rc) (L : List Px) (ps : List (Int × Int)) : ∀ ls, (∀ e ∈ ls, goodA e = true) → (∀ p ∈ ps, withinB p.1 p.2 = true) → ∀ e ∈ pstL c L ls ps, goodA e = true := by
  induction ps with
  | nil => intro ls h _; exact h
  | cons p r ih =>
    intro ls h hp
    refine ih _ (putL_good h (hp p (List.mem_cons_self ..)) ?_) (fun q hq => hp q (List.mem_cons_of_mem _ hq))
    exact eqT_true fun i hi => pstT_clean c L _ _ (fun j hj => tileL_cleanL (fun e he => ((goodA_iff e).1 (h e he)).2.2) _ _ hj) i hi
/-- The tile at a position behind a paste. -/
theorem tileL_pst_out (c : Rc) (L : List Px) {X Y : Int} (ps : List (Int × Int)) : ∀ ls, (X, Y) ∉ ps → tileL (pstL c L ls ps) X Y = tileL ls X Y := by
  induction ps with
  | nil => intro ls _; rfl
  | cons p r ih =>
    intro ls h
    rw [pstL_cons, ih _ (fun e => h (List.mem_cons_of_mem _ e))]
    refine tileL_put_other _ _ _ _ (decide_eq_false fun e => h ?_)
    have : p = (X, Y) := Prod.ext e.1 e.2
    rw [this]
    exact List.mem_cons_self ..
theorem tileL_pst_in (c : Rc) (L : List Px) {X Y : Int} (ps : List (Int × Int)) : ∀ ls, Srt ls → ps.Nodup → (X, Y) ∈ ps → tileL (pstL c L ls ps) X Y = if zeroB (pstT c L X Y (tileL ls X Y)) = true then zT else pstT c L X Y (tileL ls X Y) := by
  induction ps with
  | nil => intro ls _ _ h; cases h
  | cons p r ih =>
    intro ls hs hn h
    obtain ⟨h1, h2⟩ := List.pairwise_cons.1 hn
    rw [pstL_cons]
    by_cases hp : p = (X, Y)
    · subst hp
      rw [tileL_pst_out c L r _ (fun e => h1 _ e rfl)]
      exact tileL_put_same hs _ _ _
    · rcases List.mem_cons.1 h with e | e
      · exact absurd e.symm hp
      · rw [ih (pst1 c L ls p) (putL_srt hs) h2 e]
        have : tileL (pst1 c L ls p) X Y = tileL ls X Y := tileL_put_other _ _ _ _ (decide_eq_false fun e => hp (Prod.ext e.1 e.2))
        rw [this]
theorem posL_mem {c : Rc} (hf : Fits c) {X Y : Int} : (X, Y) ∈ posL c ↔ hasR (tlR c) X Y = true := by
  constructor
  · intro h
    obtain ⟨k, hk, e⟩ := List.mem_map.1 h
    have := px_in (tl_fits hf) (List.mem_range.1 hk)
    unfold posP at e
    injection e with e1 e2
    rw [← e1, ← e2]
    exact this
  · intro h
    have hr := (hasR_iff _ _ _).1 h
    obtain ⟨k, _, hk, e1, e2⟩ := px_xy (tl_fits hf) (X := (X - (tlR c).x0).toNat) (Y := (Y - (tlR c).y0).toNat) (by omega) (by omega)
    refine List.mem_map.2 ⟨k, List.mem_range.2 hk, ?_⟩
    unfold posP
    rw [e1, e2]
    exact Prod.ext (by simp only; omega) (by simp only; omega)
/-- A pixel behind a paste. -/
theorem getL_pst {c : Rc} (hf : Fits c) (L : List Px) {ls : List TA} (hs : Srt ls) (hc : CleanL ls) (x y : Int) : getL (pstL c L ls (posL c)) x y = if hasR c x y = true then cleanP (pixL c L x y) else getL ls x y := by
  have hi : (8 * (y % 8) + x % 8).toNat < 64 := by omega
  have ex : x / 8 * 8 + (((8 * (y % 8) + x % 8).toNat : Nat) : Int) % 8 = x := by omega
  have ey : y / 8 * 8 + (((8 * (y % 8) + x % 8).toNat : Nat) : Int) / 8 = y := by omega
  have hp : pstT c L (x / 8) (y / 8) (tileL ls (x / 8) (y / 8)) (8 * (y % 8) + x % 8).toNat = if hasR c x y = true then cleanP (pixL c L x y) else getL ls x y := by
    unfold pstT
    rw [if_pos hi, ex, ey]
    rfl
  unfold getL at hp ⊢
  by_cases hm : (x / 8, y / 8) ∈ posL c
  · rw [tileL_pst_in c L _ _ hs (posL_nodup hf) hm]
    by_cases hz : zeroB (pstT c L (x / 8) (y / 8) (tileL ls (x / 8) (y / 8))) = true
    · rw [if_pos hz, ← hp]
      have h0 := (zeroB_iff _).1 hz _ hi
      have h1 := pstT_clean c L (x / 8) (y / 8) (t := tileL ls (x / 8) (y / 8)) (fun j hj => tileL_cleanL hc _ _ hj) _ hi
      rw [← h1]
      unfold cleanP
      rw [if_pos h0]
      rfl
    · rw [if_neg hz, hp]
  · rw [tileL_pst_out c L _ _ hm]
    rw [if_neg]
    intro hh
    apply hm
    rw [posL_mem hf, hasR_iff]
    have := (hasR_iff _ _ _).1 hh
    unfold tlR
    simp only
    omega
def pstE (c : Rc) (L : List Px) (ls : List TA) : Int := if validR c = true ∧ (L.length : Int) = areaR c then (if fitsE c = 0 then manyE (pstL c L (fineL ls) (posL c)) else fitsE c) else 1
def pstR (c : Rc) (L : List Px) (ls : List TA) : List TA := if validR c = true ∧ (L.length : Int) = areaR c then (if fitsE c = 0 then manyL (pstL c L (fineL ls) (posL c)) else []) else []
theorem pstR_valid (c : Rc) (L : List Px) (ls : List TA) : validL (pstR c L ls) = true := by
  unfold pstR
  split
  · split
    · rename_i hE
      unfold manyL
      split
      · rename_i h
        exact validL_mk h (pstL_good c L _ _ (validL_good (fineL_valid ls)) (posL_in (fitsE_zero hE))) (pstL_srt c L _ _ (validL_srt (fineL_valid ls)))
      · exact validL_nil
    · exact validL_nil
  · exact validL_nil
theorem pstR_tok {c : Rc} {L : List Px} {ls : List TA} (hL : OkL L) (h : TokL ls) : TokL (pstR c L ls) := by
  unfold pstR
  split
  · split
    · unfold manyL
      split
      · exact pstL_tok hL _ _ (fineL_tok h)
      · exact TokL.nil
    · exact TokL.nil
  · exact TokL.nil
/-- The cut of a sorted list: what stands there. -/
theorem hit_at {ls : List TA} (hs : Srt ls) {x y : Int} (h : hitL ls x y = true) : cutL ls x y < ls.length ∧ aT ls (cutL ls x y) = ⟨x, y, tileL ls x y⟩ := by
  unfold hitL at h
  obtain ⟨h1, h2⟩ := Bool.and_eq_true_iff.1 h
  have h1 := of_decide_eq_true h1
  have h2 := of_decide_eq_true h2
  refine ⟨h1, ?_⟩
  have hm : aT ls (cutL ls x y) ∈ ls := List.mem_of_getElem? (aT_at h1)
  have ht := tileL_mem hs hm
  rw [h2.1, h2.2] at ht
  rw [ht]
  obtain ⟨e1, e2⟩ := h2
  generalize aT ls (cutL ls x y) = e at *
  obtain ⟨ex, ey, et⟩ := e
  simp only at e1 e2
  subst e1 e2
  rfl
theorem hit_not {ls : List TA} (hs : Srt ls) {x y : Int} (h : hitL ls x y = false) : tileL ls x y = zT := by
  refine tileL_none fun e he => ?_
  obtain ⟨j, hj⟩ := List.mem_iff_getElem?.1 he
  have hjl : j < ls.length := (List.getElem?_eq_some_iff.1 hj).1
  rw [aT_at hjl] at hj
  obtain rfl := Option.some.inj hj
  by_cases hc : j < cutL ls x y
  · have := of_decide_eq_true (cutL_lt hc)
    exact decide_eq_false (by omega)
  · unfold hitL at h
    have hcl : cutL ls x y < ls.length := by omega
    rw [decide_eq_true hcl, Bool.true_and] at h
    by_cases e : j = cutL ls x y
    · rw [e]; exact h
    · have h1 := of_decide_eq_true (srt_at hs (show cutL ls x y < j by omega) hjl)
      have h2 := of_decide_eq_false (cutL_at hcl)
      exact decide_eq_false (by omega)
theorem RS.congr {v : Value} {ls ks : List TA} {w : World} (h : RS v ls w) (hl : ls.length = ks.length) (hr : rowC ls = rowC ks) : RS v ks w := by
  rcases h with ⟨h1, rfl⟩ | ⟨g, o, c, e, hc, sc⟩
  · exact .inl ⟨h1, List.eq_nil_of_length_eq_zero hl.symm⟩
  · refine .inr ⟨g, o, c, by rw [← hl]; exact e, by omega, fun hn => ⟨(sc (by omega)).1, fun i hi j hj => ?_⟩⟩
    rw [(sc (by omega)).2 i (by omega) j hj, ← rowC_at ls i j (by omega) hj, hr, rowC_at ks i j hi hj]
theorem putL_zero (ls : List TA) (x y : Int) {t u : Nat → Px} (ht : zeroB t = true) (hu : zeroB u = true) : putL ls x y t = putL ls x y u := by
  rw [putL_cut, putL_cut]
  unfold newA
  rw [if_pos ht, if_pos hu]
end Go.Proofs.Ytppccnjckiedlaa
