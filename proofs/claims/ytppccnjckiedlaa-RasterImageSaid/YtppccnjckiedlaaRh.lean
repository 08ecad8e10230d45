/- Arms for rasters: boxed rasters, tiles at a position, rows of them; contracts of Valid of package raster and of its reference. -/
import Derived.Test.YtppccnjckiedlaaRg
namespace Go.Proofs.Ytppccnjckiedlaa
open Go.RowKit Pl
set_option linter.unusedVariables false
set_option linter.unusedSimpArgs false
set_option maxRecDepth 20000

theorem AtB.cell0 {t : TypeId} {w : World} {b : Nat} {v : Value} (h : AtB t w b #[v]) : w.cell? ⟨b, 0, none⟩ = some v := h.cell 0 rfl
theorem run_load_sl {w : World} {b j : Nat} {v : Value} (h : w.cell? ⟨b, j, none⟩ = some v) : (Instr.loadAt 28 (.pointer (some ⟨b, j, none⟩))).run Try.prog w = .ok v w := by
  simp [go_sem, h]
/-- Loaded from cells that are known one by one. -/
theorem run_load_cells {w : World} {b off : Nat} {cs : Array Value} {t : TypeId} (hagg : ∀ w : World, (isAgg t).run Try.prog w = .ok true w)
    (hsz : (Try.prog.info? t).map (·.size) = some cs.size) (hc : ∀ j, j < cs.size → w.cell? ⟨b, off + j, none⟩ = cs[j]?) : (Instr.loadAt t (.pointer (some ⟨b, off, none⟩))).run Try.prog w = .ok (.agg cs) w := by
  simp only [Instr.loadAt, Instr.sureAddr, Sem.run_bind, Sem.run_pure, Result.andThen_ok]
  have hl : (loadCells ⟨b, off, none⟩ cs.toList.length).run Try.prog w = .ok cs.toList.toArray w :=
    run_loadCells_list (P := Try.prog) w ⟨b, off, none⟩ cs.toList (fun j v hv => by
      have hadd : (⟨b, off, none⟩ : Addr).add j = ⟨b, off + j, none⟩ := by unfold Addr.add; split <;> simp_all
      have hj : j < cs.size := by
        have := (List.getElem?_eq_some_iff.1 hv).1
        rw [Array.length_toList] at this
        exact this
      rw [hadd, hc j hj]
      simpa using hv)
  cases hq : Try.prog.info? t with
  | none => rw [hq] at hsz; cases hsz
  | some i =>
    have he : i.size = cs.size := by rw [hq] at hsz; simpa using hsz
    rw [Array.length_toList] at hl
    simp only [Array.toArray_toList] at hl
    simp only [loadVar, Sem.run_bind, hagg w, sizeOf, typeInfo, hq, he, hl, run_program, Result.andThen_ok, if_true, Sem.run_pure]
theorem ta_size (e : TA) : (Try.prog.info? 79).map (·.size) = some (taC e).size := by rw [size_taC]; kernel_rfl
theorem pos_size (x y : Int) : (Try.prog.info? 24).map (·.size) = some (#[Value.int .i64 x, .int .i64 y] : Array Value).size := by kernel_rfl
section
variable {w : World} {b g o i : Nat} {e : TA} {ls : List TA}
theorem ta_pos (h : AtB 79 w b (taC e)) : (Instr.loadAt 24 (.pointer (some ⟨b, 0, none⟩))).run Try.prog w = .ok (Ps.v e.x e.y) w :=
  run_load_cells Try.isAgg24 (pos_size _ _) (fun j hj => by
    have hj : j < 2 := hj
    have hc : j = 0 ∨ j = 1 := by omega
    rcases hc with rfl | rfl
    · exact h.cell 0 (taC_x e)
    · exact h.cell 1 (taC_y e))
theorem ta_tile (h : AtB 79 w b (taC e)) : (Instr.loadAt 40 (.pointer (some ⟨b, 2, none⟩))).run Try.prog w = .ok (Tile.v e.t) w :=
  run_load_BP h 2 Try.isAgg40 (tile_size _) (fun j hj => taC_t e j)
theorem rc_ta (h : RCells g o ls w) (hi : i < ls.length) (he : aT ls i = e) : (Instr.loadAt 79 (.pointer (some ⟨g, o + i * 258, none⟩))).run Try.prog w = .ok (.agg (taC e)) w :=
  run_load_cells Try.isAgg79 (ta_size _) (fun j hj => by
    rw [size_taC] at hj
    rw [← he, Nat.add_assoc]
    exact h.2 i hi j hj)
theorem rc_pos (h : RCells g o ls w) (hi : i < ls.length) (he : aT ls i = e) : (Instr.loadAt 24 (.pointer (some ⟨g, o + i * 258, none⟩))).run Try.prog w = .ok (Ps.v e.x e.y) w :=
  run_load_cells Try.isAgg24 (pos_size _ _) (fun j hj => by
    have hj : j < 2 := hj
    have hc : j = 0 ∨ j = 1 := by omega
    subst he
    rcases hc with rfl | rfl
    · exact h.x hi
    · exact h.y hi)
theorem rc_tile (h : RCells g o ls w) (hi : i < ls.length) (he : aT ls i = e) : (Instr.loadAt 40 (.pointer (some ⟨g, o + i * 258 + 2, none⟩))).run Try.prog w = .ok (Tile.v e.t) w :=
  run_load_cells Try.isAgg40 (tile_size _) (fun j hj => by
    rw [size_tileC] at hj
    subst he
    exact h.t hi hj)
theorem ov_rc (h : RCells g o ls w) : ∀ w', (∃ u, w' = ov w u) → RCells g o ls w' := by
  rintro w' ⟨u, rfl⟩
  exact h.of_eq ((ov_below w u).block _ h.lt)
end
def zTA : Array Value := #[.int .i64 0, .int .i64 0] ++ Array.replicate 256 (.int .u8 0)
theorem size_zTA : zTA.size = 258 := by unfold zTA; rw [Array.size_append, Array.size_replicate]; rfl
theorem taC_all (e : TA) : (taC e).all (·.oneCell') = true := by
  rw [← Array.all_toList]
  exact List.all_eq_true.2 (taC_oneCell e)
theorem run_alloc_TA (w : World) (o : Oper) (ho : o.op = .alloc 79) (ev : Operand → Value) : (execOp ev o).run Try.prog w = .ok (.value (.pointer (some ⟨w.heap.size, 0, none⟩))) (w.alloc (.cells zTA 79)) := by
  obtain ⟨d, p, t, ps, af, gd⟩ := o
  simp only at ho
  subst ho
  kernel_rfl
attribute [irreducible] zTA

theorem step_within {ls : List TA} {k : Nat} {x y : Int} {t : Nat → Px} (he : aT ls k = ⟨x, y, t⟩) (h : withinB x y = false) : stepA ls k = false := by
  unfold stepA goodA; rw [he, h]; rfl
theorem step_zero {ls : List TA} {k : Nat} {x y : Int} {t : Nat → Px} (he : aT ls k = ⟨x, y, t⟩) (h : zeroB t = true) : stepA ls k = false := by
  unfold stepA goodA; rw [he, h]; simp
theorem step_clean {ls : List TA} {k : Nat} {x y : Int} {t : Nat → Px} (he : aT ls k = ⟨x, y, t⟩) (h : eqT (cleanT t) t = false) : stepA ls k = false := by
  unfold stepA goodA; rw [he, h]; simp
theorem step_first {ls : List TA} {x y : Int} {t : Nat → Px} (he : aT ls 0 = ⟨x, y, t⟩) (h1 : withinB x y = true) (h2 : zeroB t = false) (h3 : eqT (cleanT t) t = true) : stepA ls 0 = true := by
  unfold stepA goodA; rw [he, h1, h2, h3]; rfl
theorem step_less {ls : List TA} {k : Nat} {x y x' y' : Int} {t t' : Nat → Px} (hk : 0 < k) (he : aT ls k = ⟨x, y, t⟩) (he' : aT ls (k - 1) = ⟨x', y', t'⟩) (h1 : withinB x y = true) (h2 : zeroB t = false) (h3 : eqT (cleanT t) t = true) : stepA ls k = lessB x' y' x y := by
  unfold stepA goodA beforeA; rw [he, he', h1, h2, h3, decide_eq_false (by omega)]; simp
set_option maxHeartbeats 4000000 in
theorem P_Valid (v : Value) (ls : List TA) (w : World) (h : RS v ls w) (tk : TokL ls) (hn : ls.length ≤ maxLen) : Calls Try.prog 16 #[.agg #[v]] w fun e w' => e = .returned (.bool (validL ls)) ∧ Below w.heap.size w w' := by
  unfold maxLen at hn
  obtain ⟨a, c, rfl, hc⟩ := h.len
  have B := Below.refl w.heap.size w
  have HS := Lib.hid h
  have HK := Lib.hid tk
  clear h tk
  by_cases hbig : 1024 < ls.length
  · rw [validL_big hbig]
    have d1 : decide (1024 < (ls.length : Int)) = true := decide_eq_true (by omega)
    go_enter Try.func16, Try.ntmps16
    go_wp2_with (first | (refine wpList_loadAny (t := 28) rfl _ rfl _ _ _ rfl (run_load_sl r1.cell0) (by rfl) ?_; simp only [Act.put, List.setIfInBounds_toArray, List.set_cons_zero, List.set_cons_succ]) | (refine wpList_boxB (t := 30) rfl _ rfl _ rfl ?_; intro b_r1 wn hle hge ht hbn hzn; have hsz := B.size; replace B := B.trans (hbn.mono (by omega)); have hln := Nat.lt_of_lt_of_eq (Nat.lt_succ_self _) hzn.symm; clear hzn; (try first | (have hlt := r1.lt; replace r1 := r1.of_eq (hbn.block _ (by omega))) | replace r1 := r1.below (hbn.mono hle)); (try first | (have hlt := t1.lt; replace t1 := t1.of_eq (hbn.block _ (by omega))) | replace t1 := t1.below (hbn.mono hle)); (try first | (have hlt := rc.lt; replace rc := rc.of_eq (hbn.block _ (by omega))) | replace rc := rc.below (hbn.mono hle)); have r1 := ht; clear ht; simp only [Act.put, List.setIfInBounds_toArray, List.set_cons_zero, List.set_cons_succ]) | fail)
    go_ret
    exact ⟨rfl, B⟩
  · have d1 : decide (1024 < (ls.length : Int)) = false := decide_eq_false (by omega)
    go_enter Try.func16, Try.ntmps16
    go_wp2_with (first | (refine wpList_loadAny (t := 28) rfl _ rfl _ _ _ rfl (run_load_sl r1.cell0) (by rfl) ?_; simp only [Act.put, List.setIfInBounds_toArray, List.set_cons_zero, List.set_cons_succ]) | (refine wpList_boxB (t := 30) rfl _ rfl _ rfl ?_; intro b_r1 wn hle hge ht hbn hzn; have hsz := B.size; replace B := B.trans (hbn.mono (by omega)); have hln := Nat.lt_of_lt_of_eq (Nat.lt_succ_self _) hzn.symm; clear hzn; (try first | (have hlt := r1.lt; replace r1 := r1.of_eq (hbn.block _ (by omega))) | replace r1 := r1.below (hbn.mono hle)); (try first | (have hlt := t1.lt; replace t1 := t1.of_eq (hbn.block _ (by omega))) | replace t1 := t1.below (hbn.mono hle)); (try first | (have hlt := rc.lt; replace rc := rc.of_eq (hbn.block _ (by omega))) | replace rc := rc.below (hbn.mono hle)); have r1 := ht; clear ht; simp only [Act.put, List.setIfInBounds_toArray, List.set_cons_zero, List.set_cons_succ]) | fail)
    clear d1
    have hr1 := r1.lt
    go_loopw [3, 4, 12] (fun _ _ i wr => ∃ k : Nat, k ≤ ls.length ∧ i = .int .i64 k ∧ Below w.heap.size w wr ∧ wn.heap.size ≤ wr.heap.size ∧ AtB 30 wr b_r1 #[.slice a ls.length c] ∧ ∀ j, j < k → stepA ls j = true) (fun _ _ i _ => (ls.length - intOf i).toNat)
    case atStart => exact ⟨0, by omega, rfl, B, Nat.le_refl _, r1, fun j hj => by omega⟩
    case round =>
      clear B r1
      obtain ⟨k, hk, rfl, B, hwn, r1, hst⟩ := hrel
      have Hst := Lib.hid hst
      clear hst
      by_cases hkl : k < ls.length
      · obtain ⟨g, o, rfl, rc0⟩ := HS.out.at (by omega)
        have hg0 := rc0.lt
        have rc := rc0.of_eq (B.block _ rc0.lt)
        clear rc0
        obtain ⟨⟨x, y, t⟩, he⟩ : ∃ e, aT ls k = e := ⟨_, rfl⟩
        have htk : Tok t := by have := HK.out.at hkl; rw [he] at this; exact this
        have HT := Lib.hid htk
        obtain ⟨⟨x', y', t'⟩, he'⟩ : ∃ e, aT ls (k - 1) = e := ⟨_, rfl⟩
        have hk1 : k - 1 < ls.length := by omega
        have dlt : decide ((k : Int) < (ls.length : Int)) = true := decide_eq_true (by omega)
        have hneq : ∀ w, (binOp .neq 40 (Tile.v (cleanT t)) (Tile.v t)).run Try.prog w = .ok (.bool (!eqT (cleanT t) t)) w := fun w => neq_tile _ _ w
        cases h1 : withinB x y with
        | false =>
          have E := Lib.hid (step_within he h1)
          go_wp2_with (first | (refine wpList_storeB (t := 79) rfl _ _ rfl _ rfl _ rfl t1 (by rw [size_taC]; kernel_rfl) (by simp only [size_taC, size_zTA]) (taC_all _) ?_; clear t1; intro wn ht hcn hzn; have hsz := B.size; replace hzn := Nat.le_of_eq hzn.symm; replace B := Chg.below B hcn (by omega) B.size; (try replace r1 := r1.of_eq (hcn.block _ r1.lt (by omega))); (try replace rc := rc.of_eq (hcn.block _ rc.lt (by omega))); have t1 := ht; clear ht; simp only [Act.put, List.setIfInBounds_toArray, List.set_cons_zero, List.set_cons_succ]) | (refine wpList_allocBk (t := 79) rfl _ (run_alloc_TA _ _ rfl) ?_; intro b_t1 wn hle hge ht hbn hzn; have hsz := B.size; replace B := B.trans (hbn.mono (by omega)); have hln := Nat.lt_of_lt_of_eq (Nat.lt_succ_self _) hzn.symm; clear hzn; (try first | (have hlt := r1.lt; replace r1 := r1.of_eq (hbn.block _ (by omega))) | replace r1 := r1.below (hbn.mono hle)); (try first | (have hlt := t1.lt; replace t1 := t1.of_eq (hbn.block _ (by omega))) | replace t1 := t1.below (hbn.mono hle)); (try first | (have hlt := rc.lt; replace rc := rc.of_eq (hbn.block _ (by omega))) | replace rc := rc.below (hbn.mono hle)); have t1 := ht; clear ht; simp only [Act.put, List.setIfInBounds_toArray, List.set_cons_zero, List.set_cons_succ]) | (refine wpList_loadAny (t := 79) rfl _ rfl _ _ _ rfl (rc_ta rc hkl he) (by first | rfl | omega) ?_; simp only [Act.put, List.setIfInBounds_toArray, List.set_cons_zero, List.set_cons_succ]) | (refine wpList_loadAny (t := 28) rfl _ rfl _ _ _ rfl (run_load_sl r1.cell0) (by rfl) ?_; simp only [Act.put, List.setIfInBounds_toArray, List.set_cons_zero, List.set_cons_succ]) | fail)
          refine wp_region_ov (by kernel_rfl) (by kernel_rfl) ?_
          repeat (first | go_big_quiet_skip | (go_big_quiet_want; first | (refine quiet_loadAny (t := 24) rfl _ _ _ rfl (fun w hw => ta_pos (ov_B t1 w hw)) (by first | rfl | omega) ?_; simp only [Act.put, List.setIfInBounds_toArray, List.set_cons_zero, List.set_cons_succ]; go_big_quiet_on) | (refine quiet_loadAny (t := 40) rfl _ _ _ rfl (fun w hw => ta_tile (ov_B t1 w hw)) (by first | rfl | omega) ?_; simp only [Act.put, List.setIfInBounds_toArray, List.set_cons_zero, List.set_cons_succ]; go_big_quiet_on) | (refine quiet_loadAny (t := 28) rfl _ _ _ rfl (fun w hw => run_load_sl (ov_B r1 w hw).cell0) (by rfl) ?_; simp only [Act.put, List.setIfInBounds_toArray, List.set_cons_zero, List.set_cons_succ]; go_big_quiet_on) | (refine quiet_loadAny (t := 24) rfl _ _ _ rfl (fun w hw => rc_pos (ov_rc rc w hw) hk1 he') (by first | rfl | omega) ?_; simp only [Act.put, List.setIfInBounds_toArray, List.set_cons_zero, List.set_cons_succ]; go_big_quiet_on) | (go_big_quiet_op; first | go_big_quiet_on | go_big_quiet_call ((first | (go_at_call 52; exact calls_ov (P_within _ _ _)) | (go_at_call 53; exact calls_ov (P_Zero _ _ htk)) | (go_at_call 54; exact calls_ov (P_Clean_t _ _ htk)) | (go_at_call 55; exact calls_ov (P_order _ _ _ _ _)))))))
          refine wpQuiet_nil ?_
          intro wn hbn
          have hsz := B.size
          have hzn := hbn.size
          replace B := B.trans (hbn.mono B.size)
          try first | replace r1 := r1.of_eq (hbn.block _ r1.lt) | replace r1 := r1.below hbn
          try first | replace t1 := t1.of_eq (hbn.block _ t1.lt) | replace t1 := t1.below hbn
          try first | replace rc := rc.of_eq (hbn.block _ rc.lt) | replace rc := rc.below hbn
          go_wp2
          go_ret
          exact ⟨by rw [validL_no hkl E.out]; try rfl, B⟩
        | true =>
          cases h2 : zeroB t with
          | true =>
            have E := Lib.hid (step_zero he h2)
            go_wp2_with (first | (refine wpList_storeB (t := 79) rfl _ _ rfl _ rfl _ rfl t1 (by rw [size_taC]; kernel_rfl) (by simp only [size_taC, size_zTA]) (taC_all _) ?_; clear t1; intro wn ht hcn hzn; have hsz := B.size; replace hzn := Nat.le_of_eq hzn.symm; replace B := Chg.below B hcn (by omega) B.size; (try replace r1 := r1.of_eq (hcn.block _ r1.lt (by omega))); (try replace rc := rc.of_eq (hcn.block _ rc.lt (by omega))); have t1 := ht; clear ht; simp only [Act.put, List.setIfInBounds_toArray, List.set_cons_zero, List.set_cons_succ]) | (refine wpList_allocBk (t := 79) rfl _ (run_alloc_TA _ _ rfl) ?_; intro b_t1 wn hle hge ht hbn hzn; have hsz := B.size; replace B := B.trans (hbn.mono (by omega)); have hln := Nat.lt_of_lt_of_eq (Nat.lt_succ_self _) hzn.symm; clear hzn; (try first | (have hlt := r1.lt; replace r1 := r1.of_eq (hbn.block _ (by omega))) | replace r1 := r1.below (hbn.mono hle)); (try first | (have hlt := t1.lt; replace t1 := t1.of_eq (hbn.block _ (by omega))) | replace t1 := t1.below (hbn.mono hle)); (try first | (have hlt := rc.lt; replace rc := rc.of_eq (hbn.block _ (by omega))) | replace rc := rc.below (hbn.mono hle)); have t1 := ht; clear ht; simp only [Act.put, List.setIfInBounds_toArray, List.set_cons_zero, List.set_cons_succ]) | (refine wpList_loadAny (t := 79) rfl _ rfl _ _ _ rfl (rc_ta rc hkl he) (by first | rfl | omega) ?_; simp only [Act.put, List.setIfInBounds_toArray, List.set_cons_zero, List.set_cons_succ]) | (refine wpList_loadAny (t := 28) rfl _ rfl _ _ _ rfl (run_load_sl r1.cell0) (by rfl) ?_; simp only [Act.put, List.setIfInBounds_toArray, List.set_cons_zero, List.set_cons_succ]) | fail)
            refine wp_region_ov (by kernel_rfl) (by kernel_rfl) ?_
            repeat (first | go_big_quiet_skip | (go_big_quiet_want; first | (refine quiet_loadAny (t := 24) rfl _ _ _ rfl (fun w hw => ta_pos (ov_B t1 w hw)) (by first | rfl | omega) ?_; simp only [Act.put, List.setIfInBounds_toArray, List.set_cons_zero, List.set_cons_succ]; go_big_quiet_on) | (refine quiet_loadAny (t := 40) rfl _ _ _ rfl (fun w hw => ta_tile (ov_B t1 w hw)) (by first | rfl | omega) ?_; simp only [Act.put, List.setIfInBounds_toArray, List.set_cons_zero, List.set_cons_succ]; go_big_quiet_on) | (refine quiet_loadAny (t := 28) rfl _ _ _ rfl (fun w hw => run_load_sl (ov_B r1 w hw).cell0) (by rfl) ?_; simp only [Act.put, List.setIfInBounds_toArray, List.set_cons_zero, List.set_cons_succ]; go_big_quiet_on) | (refine quiet_loadAny (t := 24) rfl _ _ _ rfl (fun w hw => rc_pos (ov_rc rc w hw) hk1 he') (by first | rfl | omega) ?_; simp only [Act.put, List.setIfInBounds_toArray, List.set_cons_zero, List.set_cons_succ]; go_big_quiet_on) | (go_big_quiet_op; first | go_big_quiet_on | go_big_quiet_call ((first | (go_at_call 52; exact calls_ov (P_within _ _ _)) | (go_at_call 53; exact calls_ov (P_Zero _ _ htk)) | (go_at_call 54; exact calls_ov (P_Clean_t _ _ htk)) | (go_at_call 55; exact calls_ov (P_order _ _ _ _ _)))))))
            refine wpQuiet_nil ?_
            intro wn hbn
            have hsz := B.size
            have hzn := hbn.size
            replace B := B.trans (hbn.mono B.size)
            try first | replace r1 := r1.of_eq (hbn.block _ r1.lt) | replace r1 := r1.below hbn
            try first | replace t1 := t1.of_eq (hbn.block _ t1.lt) | replace t1 := t1.below hbn
            try first | replace rc := rc.of_eq (hbn.block _ rc.lt) | replace rc := rc.below hbn
            go_wp2
            go_ret
            exact ⟨by rw [validL_no hkl E.out]; try rfl, B⟩
          | false =>
            cases h3 : eqT (cleanT t) t with
            | false =>
              have E := Lib.hid (step_clean he h3)
              go_wp2_with (first | (refine wpList_storeB (t := 79) rfl _ _ rfl _ rfl _ rfl t1 (by rw [size_taC]; kernel_rfl) (by simp only [size_taC, size_zTA]) (taC_all _) ?_; clear t1; intro wn ht hcn hzn; have hsz := B.size; replace hzn := Nat.le_of_eq hzn.symm; replace B := Chg.below B hcn (by omega) B.size; (try replace r1 := r1.of_eq (hcn.block _ r1.lt (by omega))); (try replace rc := rc.of_eq (hcn.block _ rc.lt (by omega))); have t1 := ht; clear ht; simp only [Act.put, List.setIfInBounds_toArray, List.set_cons_zero, List.set_cons_succ]) | (refine wpList_allocBk (t := 79) rfl _ (run_alloc_TA _ _ rfl) ?_; intro b_t1 wn hle hge ht hbn hzn; have hsz := B.size; replace B := B.trans (hbn.mono (by omega)); have hln := Nat.lt_of_lt_of_eq (Nat.lt_succ_self _) hzn.symm; clear hzn; (try first | (have hlt := r1.lt; replace r1 := r1.of_eq (hbn.block _ (by omega))) | replace r1 := r1.below (hbn.mono hle)); (try first | (have hlt := t1.lt; replace t1 := t1.of_eq (hbn.block _ (by omega))) | replace t1 := t1.below (hbn.mono hle)); (try first | (have hlt := rc.lt; replace rc := rc.of_eq (hbn.block _ (by omega))) | replace rc := rc.below (hbn.mono hle)); have t1 := ht; clear ht; simp only [Act.put, List.setIfInBounds_toArray, List.set_cons_zero, List.set_cons_succ]) | (refine wpList_loadAny (t := 79) rfl _ rfl _ _ _ rfl (rc_ta rc hkl he) (by first | rfl | omega) ?_; simp only [Act.put, List.setIfInBounds_toArray, List.set_cons_zero, List.set_cons_succ]) | (refine wpList_loadAny (t := 28) rfl _ rfl _ _ _ rfl (run_load_sl r1.cell0) (by rfl) ?_; simp only [Act.put, List.setIfInBounds_toArray, List.set_cons_zero, List.set_cons_succ]) | fail)
              refine wp_region_ov (by kernel_rfl) (by kernel_rfl) ?_
              repeat (first | go_big_quiet_skip | (go_big_quiet_want; first | (refine quiet_loadAny (t := 24) rfl _ _ _ rfl (fun w hw => ta_pos (ov_B t1 w hw)) (by first | rfl | omega) ?_; simp only [Act.put, List.setIfInBounds_toArray, List.set_cons_zero, List.set_cons_succ]; go_big_quiet_on) | (refine quiet_loadAny (t := 40) rfl _ _ _ rfl (fun w hw => ta_tile (ov_B t1 w hw)) (by first | rfl | omega) ?_; simp only [Act.put, List.setIfInBounds_toArray, List.set_cons_zero, List.set_cons_succ]; go_big_quiet_on) | (refine quiet_loadAny (t := 28) rfl _ _ _ rfl (fun w hw => run_load_sl (ov_B r1 w hw).cell0) (by rfl) ?_; simp only [Act.put, List.setIfInBounds_toArray, List.set_cons_zero, List.set_cons_succ]; go_big_quiet_on) | (refine quiet_loadAny (t := 24) rfl _ _ _ rfl (fun w hw => rc_pos (ov_rc rc w hw) hk1 he') (by first | rfl | omega) ?_; simp only [Act.put, List.setIfInBounds_toArray, List.set_cons_zero, List.set_cons_succ]; go_big_quiet_on) | (go_big_quiet_op; first | go_big_quiet_on | go_big_quiet_call ((first | (go_at_call 52; exact calls_ov (P_within _ _ _)) | (go_at_call 53; exact calls_ov (P_Zero _ _ htk)) | (go_at_call 54; exact calls_ov (P_Clean_t _ _ htk)) | (go_at_call 55; exact calls_ov (P_order _ _ _ _ _)))))))
              refine wpQuiet_nil ?_
              intro wn hbn
              have hsz := B.size
              have hzn := hbn.size
              replace B := B.trans (hbn.mono B.size)
              try first | replace r1 := r1.of_eq (hbn.block _ r1.lt) | replace r1 := r1.below hbn
              try first | replace t1 := t1.of_eq (hbn.block _ t1.lt) | replace t1 := t1.below hbn
              try first | replace rc := rc.of_eq (hbn.block _ rc.lt) | replace rc := rc.below hbn
              go_wp2
              go_ret
              exact ⟨by rw [validL_no hkl E.out]; try rfl, B⟩
            | true =>
              by_cases hk0 : 0 < k
              · have E := Lib.hid (step_less hk0 he he' h1 h2 h3)
                have d3 : decide ((0 : Int) < (k : Int)) = true := decide_eq_true (by omega)
                have d4 : decide (0 < k) = true := decide_eq_true hk0
                cases h4 : lessB x' y' x y with
                | false =>
                  have hO : decide (0 ≤ ordI x' y' x y) = true := by rw [ordI_ge, h4]; rfl
                  go_wp2_with (first | (refine wpList_storeB (t := 79) rfl _ _ rfl _ rfl _ rfl t1 (by rw [size_taC]; kernel_rfl) (by simp only [size_taC, size_zTA]) (taC_all _) ?_; clear t1; intro wn ht hcn hzn; have hsz := B.size; replace hzn := Nat.le_of_eq hzn.symm; replace B := Chg.below B hcn (by omega) B.size; (try replace r1 := r1.of_eq (hcn.block _ r1.lt (by omega))); (try replace rc := rc.of_eq (hcn.block _ rc.lt (by omega))); have t1 := ht; clear ht; simp only [Act.put, List.setIfInBounds_toArray, List.set_cons_zero, List.set_cons_succ]) | (refine wpList_allocBk (t := 79) rfl _ (run_alloc_TA _ _ rfl) ?_; intro b_t1 wn hle hge ht hbn hzn; have hsz := B.size; replace B := B.trans (hbn.mono (by omega)); have hln := Nat.lt_of_lt_of_eq (Nat.lt_succ_self _) hzn.symm; clear hzn; (try first | (have hlt := r1.lt; replace r1 := r1.of_eq (hbn.block _ (by omega))) | replace r1 := r1.below (hbn.mono hle)); (try first | (have hlt := t1.lt; replace t1 := t1.of_eq (hbn.block _ (by omega))) | replace t1 := t1.below (hbn.mono hle)); (try first | (have hlt := rc.lt; replace rc := rc.of_eq (hbn.block _ (by omega))) | replace rc := rc.below (hbn.mono hle)); have t1 := ht; clear ht; simp only [Act.put, List.setIfInBounds_toArray, List.set_cons_zero, List.set_cons_succ]) | (refine wpList_loadAny (t := 79) rfl _ rfl _ _ _ rfl (rc_ta rc hkl he) (by first | rfl | omega) ?_; simp only [Act.put, List.setIfInBounds_toArray, List.set_cons_zero, List.set_cons_succ]) | (refine wpList_loadAny (t := 28) rfl _ rfl _ _ _ rfl (run_load_sl r1.cell0) (by rfl) ?_; simp only [Act.put, List.setIfInBounds_toArray, List.set_cons_zero, List.set_cons_succ]) | fail)
                  refine wp_region_ov (by kernel_rfl) (by kernel_rfl) ?_
                  repeat (first | go_big_quiet_skip | (go_big_quiet_want; first | (refine quiet_loadAny (t := 24) rfl _ _ _ rfl (fun w hw => ta_pos (ov_B t1 w hw)) (by first | rfl | omega) ?_; simp only [Act.put, List.setIfInBounds_toArray, List.set_cons_zero, List.set_cons_succ]; go_big_quiet_on) | (refine quiet_loadAny (t := 40) rfl _ _ _ rfl (fun w hw => ta_tile (ov_B t1 w hw)) (by first | rfl | omega) ?_; simp only [Act.put, List.setIfInBounds_toArray, List.set_cons_zero, List.set_cons_succ]; go_big_quiet_on) | (refine quiet_loadAny (t := 28) rfl _ _ _ rfl (fun w hw => run_load_sl (ov_B r1 w hw).cell0) (by rfl) ?_; simp only [Act.put, List.setIfInBounds_toArray, List.set_cons_zero, List.set_cons_succ]; go_big_quiet_on) | (refine quiet_loadAny (t := 24) rfl _ _ _ rfl (fun w hw => rc_pos (ov_rc rc w hw) hk1 he') (by first | rfl | omega) ?_; simp only [Act.put, List.setIfInBounds_toArray, List.set_cons_zero, List.set_cons_succ]; go_big_quiet_on) | (go_big_quiet_op; first | go_big_quiet_on | go_big_quiet_call ((first | (go_at_call 52; exact calls_ov (P_within _ _ _)) | (go_at_call 53; exact calls_ov (P_Zero _ _ htk)) | (go_at_call 54; exact calls_ov (P_Clean_t _ _ htk)) | (go_at_call 55; exact calls_ov (P_order _ _ _ _ _)))))))
                  refine wpQuiet_nil ?_
                  intro wn hbn
                  have hsz := B.size
                  have hzn := hbn.size
                  replace B := B.trans (hbn.mono B.size)
                  try first | replace r1 := r1.of_eq (hbn.block _ r1.lt) | replace r1 := r1.below hbn
                  try first | replace t1 := t1.of_eq (hbn.block _ t1.lt) | replace t1 := t1.below hbn
                  try first | replace rc := rc.of_eq (hbn.block _ rc.lt) | replace rc := rc.below hbn
                  go_wp2
                  go_ret
                  exact ⟨by rw [validL_no hkl (E.out.trans h4)]; try rfl, B⟩
                | true =>
                  have hO : decide (0 ≤ ordI x' y' x y) = false := by rw [ordI_ge, h4]; rfl
                  go_wp2_with (first | (refine wpList_storeB (t := 79) rfl _ _ rfl _ rfl _ rfl t1 (by rw [size_taC]; kernel_rfl) (by simp only [size_taC, size_zTA]) (taC_all _) ?_; clear t1; intro wn ht hcn hzn; have hsz := B.size; replace hzn := Nat.le_of_eq hzn.symm; replace B := Chg.below B hcn (by omega) B.size; (try replace r1 := r1.of_eq (hcn.block _ r1.lt (by omega))); (try replace rc := rc.of_eq (hcn.block _ rc.lt (by omega))); have t1 := ht; clear ht; simp only [Act.put, List.setIfInBounds_toArray, List.set_cons_zero, List.set_cons_succ]) | (refine wpList_allocBk (t := 79) rfl _ (run_alloc_TA _ _ rfl) ?_; intro b_t1 wn hle hge ht hbn hzn; have hsz := B.size; replace B := B.trans (hbn.mono (by omega)); have hln := Nat.lt_of_lt_of_eq (Nat.lt_succ_self _) hzn.symm; clear hzn; (try first | (have hlt := r1.lt; replace r1 := r1.of_eq (hbn.block _ (by omega))) | replace r1 := r1.below (hbn.mono hle)); (try first | (have hlt := t1.lt; replace t1 := t1.of_eq (hbn.block _ (by omega))) | replace t1 := t1.below (hbn.mono hle)); (try first | (have hlt := rc.lt; replace rc := rc.of_eq (hbn.block _ (by omega))) | replace rc := rc.below (hbn.mono hle)); have t1 := ht; clear ht; simp only [Act.put, List.setIfInBounds_toArray, List.set_cons_zero, List.set_cons_succ]) | (refine wpList_loadAny (t := 79) rfl _ rfl _ _ _ rfl (rc_ta rc hkl he) (by first | rfl | omega) ?_; simp only [Act.put, List.setIfInBounds_toArray, List.set_cons_zero, List.set_cons_succ]) | (refine wpList_loadAny (t := 28) rfl _ rfl _ _ _ rfl (run_load_sl r1.cell0) (by rfl) ?_; simp only [Act.put, List.setIfInBounds_toArray, List.set_cons_zero, List.set_cons_succ]) | fail)
                  refine wp_region_ov (by kernel_rfl) (by kernel_rfl) ?_
                  repeat (first | go_big_quiet_skip | (go_big_quiet_want; first | (refine quiet_loadAny (t := 24) rfl _ _ _ rfl (fun w hw => ta_pos (ov_B t1 w hw)) (by first | rfl | omega) ?_; simp only [Act.put, List.setIfInBounds_toArray, List.set_cons_zero, List.set_cons_succ]; go_big_quiet_on) | (refine quiet_loadAny (t := 40) rfl _ _ _ rfl (fun w hw => ta_tile (ov_B t1 w hw)) (by first | rfl | omega) ?_; simp only [Act.put, List.setIfInBounds_toArray, List.set_cons_zero, List.set_cons_succ]; go_big_quiet_on) | (refine quiet_loadAny (t := 28) rfl _ _ _ rfl (fun w hw => run_load_sl (ov_B r1 w hw).cell0) (by rfl) ?_; simp only [Act.put, List.setIfInBounds_toArray, List.set_cons_zero, List.set_cons_succ]; go_big_quiet_on) | (refine quiet_loadAny (t := 24) rfl _ _ _ rfl (fun w hw => rc_pos (ov_rc rc w hw) hk1 he') (by first | rfl | omega) ?_; simp only [Act.put, List.setIfInBounds_toArray, List.set_cons_zero, List.set_cons_succ]; go_big_quiet_on) | (go_big_quiet_op; first | go_big_quiet_on | go_big_quiet_call ((first | (go_at_call 52; exact calls_ov (P_within _ _ _)) | (go_at_call 53; exact calls_ov (P_Zero _ _ htk)) | (go_at_call 54; exact calls_ov (P_Clean_t _ _ htk)) | (go_at_call 55; exact calls_ov (P_order _ _ _ _ _)))))))
                  refine wpQuiet_nil ?_
                  intro wn hbn
                  have hsz := B.size
                  have hzn := hbn.size
                  replace B := B.trans (hbn.mono B.size)
                  try first | replace r1 := r1.of_eq (hbn.block _ r1.lt) | replace r1 := r1.below hbn
                  try first | replace t1 := t1.of_eq (hbn.block _ t1.lt) | replace t1 := t1.below hbn
                  try first | replace rc := rc.of_eq (hbn.block _ rc.lt) | replace rc := rc.below hbn
                  go_wp2
                  go_roundw
                  case rel => exact ⟨k + 1, by omega, by go_num, B, by omega, r1, fun j hj => by
                    by_cases e : j = k
                    · rw [e, E.out, h4]
                    · exact Hst.out j (by omega)⟩
                  case measure => simp [intOf]; omega
              · obtain rfl : k = 0 := by omega
                have E := Lib.hid (step_first he h1 h2 h3)
                go_wp2_with (first | (refine wpList_storeB (t := 79) rfl _ _ rfl _ rfl _ rfl t1 (by rw [size_taC]; kernel_rfl) (by simp only [size_taC, size_zTA]) (taC_all _) ?_; clear t1; intro wn ht hcn hzn; have hsz := B.size; replace hzn := Nat.le_of_eq hzn.symm; replace B := Chg.below B hcn (by omega) B.size; (try replace r1 := r1.of_eq (hcn.block _ r1.lt (by omega))); (try replace rc := rc.of_eq (hcn.block _ rc.lt (by omega))); have t1 := ht; clear ht; simp only [Act.put, List.setIfInBounds_toArray, List.set_cons_zero, List.set_cons_succ]) | (refine wpList_allocBk (t := 79) rfl _ (run_alloc_TA _ _ rfl) ?_; intro b_t1 wn hle hge ht hbn hzn; have hsz := B.size; replace B := B.trans (hbn.mono (by omega)); have hln := Nat.lt_of_lt_of_eq (Nat.lt_succ_self _) hzn.symm; clear hzn; (try first | (have hlt := r1.lt; replace r1 := r1.of_eq (hbn.block _ (by omega))) | replace r1 := r1.below (hbn.mono hle)); (try first | (have hlt := t1.lt; replace t1 := t1.of_eq (hbn.block _ (by omega))) | replace t1 := t1.below (hbn.mono hle)); (try first | (have hlt := rc.lt; replace rc := rc.of_eq (hbn.block _ (by omega))) | replace rc := rc.below (hbn.mono hle)); have t1 := ht; clear ht; simp only [Act.put, List.setIfInBounds_toArray, List.set_cons_zero, List.set_cons_succ]) | (refine wpList_loadAny (t := 79) rfl _ rfl _ _ _ rfl (rc_ta rc hkl he) (by first | rfl | omega) ?_; simp only [Act.put, List.setIfInBounds_toArray, List.set_cons_zero, List.set_cons_succ]) | (refine wpList_loadAny (t := 28) rfl _ rfl _ _ _ rfl (run_load_sl r1.cell0) (by rfl) ?_; simp only [Act.put, List.setIfInBounds_toArray, List.set_cons_zero, List.set_cons_succ]) | fail)
                refine wp_region_ov (by kernel_rfl) (by kernel_rfl) ?_
                repeat (first | go_big_quiet_skip | (go_big_quiet_want; first | (refine quiet_loadAny (t := 24) rfl _ _ _ rfl (fun w hw => ta_pos (ov_B t1 w hw)) (by first | rfl | omega) ?_; simp only [Act.put, List.setIfInBounds_toArray, List.set_cons_zero, List.set_cons_succ]; go_big_quiet_on) | (refine quiet_loadAny (t := 40) rfl _ _ _ rfl (fun w hw => ta_tile (ov_B t1 w hw)) (by first | rfl | omega) ?_; simp only [Act.put, List.setIfInBounds_toArray, List.set_cons_zero, List.set_cons_succ]; go_big_quiet_on) | (refine quiet_loadAny (t := 28) rfl _ _ _ rfl (fun w hw => run_load_sl (ov_B r1 w hw).cell0) (by rfl) ?_; simp only [Act.put, List.setIfInBounds_toArray, List.set_cons_zero, List.set_cons_succ]; go_big_quiet_on) | (refine quiet_loadAny (t := 24) rfl _ _ _ rfl (fun w hw => rc_pos (ov_rc rc w hw) hk1 he') (by first | rfl | omega) ?_; simp only [Act.put, List.setIfInBounds_toArray, List.set_cons_zero, List.set_cons_succ]; go_big_quiet_on) | (go_big_quiet_op; first | go_big_quiet_on | go_big_quiet_call ((first | (go_at_call 52; exact calls_ov (P_within _ _ _)) | (go_at_call 53; exact calls_ov (P_Zero _ _ htk)) | (go_at_call 54; exact calls_ov (P_Clean_t _ _ htk)) | (go_at_call 55; exact calls_ov (P_order _ _ _ _ _)))))))
                refine wpQuiet_nil ?_
                intro wn hbn
                have hsz := B.size
                have hzn := hbn.size
                replace B := B.trans (hbn.mono B.size)
                try first | replace r1 := r1.of_eq (hbn.block _ r1.lt) | replace r1 := r1.below hbn
                try first | replace t1 := t1.of_eq (hbn.block _ t1.lt) | replace t1 := t1.below hbn
                try first | replace rc := rc.of_eq (hbn.block _ rc.lt) | replace rc := rc.below hbn
                go_wp2
                go_roundw
                case rel => exact ⟨1, by omega, by go_num, B, by omega, r1, fun j hj => by
                  obtain rfl : j = 0 := by omega
                  exact E.out⟩
                case measure => simp [intOf]; omega
      · have dlt : decide ((k : Int) < (ls.length : Int)) = false := decide_eq_false (by omega)
        have e1 := Lib.hid (validL_yes (by omega) (fun j hj => Hst.out j (by omega)))
        go_wp2_with (first | (refine wpList_loadAny (t := 28) rfl _ rfl _ _ _ rfl (run_load_sl r1.cell0) (by rfl) ?_; simp only [Act.put, List.setIfInBounds_toArray, List.set_cons_zero, List.set_cons_succ]) | fail)
        go_ret
        exact ⟨by rw [e1.out]; try rfl, B⟩
set_option maxHeartbeats 4000000 in
theorem R_Valid (v : Value) (ls : List TA) (w : World) (h : RS v ls w) (tk : TokL ls) (hn : ls.length ≤ maxLen) : Calls Try.prog 17 #[.agg #[v]] w fun e w' => e = .returned (.bool (validL ls)) ∧ Below w.heap.size w w' := by
  unfold maxLen at hn
  obtain ⟨a, c, rfl, hc⟩ := h.len
  have B := Below.refl w.heap.size w
  have HS := Lib.hid h
  have HK := Lib.hid tk
  clear h tk
  by_cases hbig : 1024 < ls.length
  · rw [validL_big hbig]
    have d1 : decide (1024 < (ls.length : Int)) = true := decide_eq_true (by omega)
    go_enter Try.func17, Try.ntmps17
    go_wp2_with (first | (refine wpList_loadAny (t := 28) rfl _ rfl _ _ _ rfl (run_load_sl r1.cell0) (by rfl) ?_; simp only [Act.put, List.setIfInBounds_toArray, List.set_cons_zero, List.set_cons_succ]) | (refine wpList_boxB (t := 30) rfl _ rfl _ rfl ?_; intro b_r1 wn hle hge ht hbn hzn; have hsz := B.size; replace B := B.trans (hbn.mono (by omega)); have hln := Nat.lt_of_lt_of_eq (Nat.lt_succ_self _) hzn.symm; clear hzn; (try first | (have hlt := r1.lt; replace r1 := r1.of_eq (hbn.block _ (by omega))) | replace r1 := r1.below (hbn.mono hle)); (try first | (have hlt := t1.lt; replace t1 := t1.of_eq (hbn.block _ (by omega))) | replace t1 := t1.below (hbn.mono hle)); (try first | (have hlt := rc.lt; replace rc := rc.of_eq (hbn.block _ (by omega))) | replace rc := rc.below (hbn.mono hle)); have r1 := ht; clear ht; simp only [Act.put, List.setIfInBounds_toArray, List.set_cons_zero, List.set_cons_succ]) | fail)
    go_ret
    exact ⟨rfl, B⟩
  · have d1 : decide (1024 < (ls.length : Int)) = false := decide_eq_false (by omega)
    go_enter Try.func17, Try.ntmps17
    go_wp2_with (first | (refine wpList_loadAny (t := 28) rfl _ rfl _ _ _ rfl (run_load_sl r1.cell0) (by rfl) ?_; simp only [Act.put, List.setIfInBounds_toArray, List.set_cons_zero, List.set_cons_succ]) | (refine wpList_boxB (t := 30) rfl _ rfl _ rfl ?_; intro b_r1 wn hle hge ht hbn hzn; have hsz := B.size; replace B := B.trans (hbn.mono (by omega)); have hln := Nat.lt_of_lt_of_eq (Nat.lt_succ_self _) hzn.symm; clear hzn; (try first | (have hlt := r1.lt; replace r1 := r1.of_eq (hbn.block _ (by omega))) | replace r1 := r1.below (hbn.mono hle)); (try first | (have hlt := t1.lt; replace t1 := t1.of_eq (hbn.block _ (by omega))) | replace t1 := t1.below (hbn.mono hle)); (try first | (have hlt := rc.lt; replace rc := rc.of_eq (hbn.block _ (by omega))) | replace rc := rc.below (hbn.mono hle)); have r1 := ht; clear ht; simp only [Act.put, List.setIfInBounds_toArray, List.set_cons_zero, List.set_cons_succ]) | fail)
    clear d1
    have hr1 := r1.lt
    go_loopw [3, 4, 5, 6] (fun i _ _ _ wr => ∃ k : Nat, k ≤ ls.length ∧ i = .int .i64 k ∧ Below w.heap.size w wr ∧ wn.heap.size ≤ wr.heap.size ∧ AtB 30 wr b_r1 #[.slice a ls.length c] ∧ ∀ j, j < k → stepA ls j = true) (fun i _ _ _ _ => (ls.length - intOf i).toNat)
    case atStart => exact ⟨0, by omega, rfl, B, Nat.le_refl _, r1, fun j hj => by omega⟩
    case round =>
      clear B r1
      obtain ⟨k, hk, rfl, B, hwn, r1, hst⟩ := hrel
      have Hst := Lib.hid hst
      clear hst
      by_cases hkl : k < ls.length
      · obtain ⟨g, o, rfl, rc0⟩ := HS.out.at (by omega)
        have hg0 := rc0.lt
        have rc := rc0.of_eq (B.block _ rc0.lt)
        clear rc0
        obtain ⟨⟨x, y, t⟩, he⟩ : ∃ e, aT ls k = e := ⟨_, rfl⟩
        have htk : Tok t := by have := HK.out.at hkl; rw [he] at this; exact this
        have HT := Lib.hid htk
        obtain ⟨⟨x', y', t'⟩, he'⟩ : ∃ e, aT ls (k - 1) = e := ⟨_, rfl⟩
        have hk1 : k - 1 < ls.length := by omega
        have dlt : decide ((k : Int) < (ls.length : Int)) = true := decide_eq_true (by omega)
        have hneq : ∀ w, (binOp .neq 40 (Tile.v (cleanT t)) (Tile.v t)).run Try.prog w = .ok (.bool (!eqT (cleanT t) t)) w := fun w => neq_tile _ _ w
        cases h1 : withinB x y with
        | false =>
          have E := Lib.hid (step_within he h1)
          go_wp2_with (first | (go_at_call 56; refine (R_Zero _ _).mono ?_; rintro e wn ⟨rfl, hbn⟩; have hsz := B.size; have hzn := hbn.size; replace B := B.trans (hbn.mono B.size); (try first | replace r1 := r1.of_eq (hbn.block _ r1.lt) | replace r1 := r1.below hbn); (try first | replace t1 := t1.of_eq (hbn.block _ t1.lt) | replace t1 := t1.below hbn); (try first | replace rc := rc.of_eq (hbn.block _ rc.lt) | replace rc := rc.below hbn)) | (refine wpList_loadAny (t := 40) rfl _ rfl _ _ _ rfl (ta_tile t1) (by first | rfl | omega) ?_; simp only [Act.put, List.setIfInBounds_toArray, List.set_cons_zero, List.set_cons_succ]) | (refine wpList_storeB (t := 79) rfl _ _ rfl _ rfl _ rfl t1 (by rw [size_taC]; kernel_rfl) (by simp only [size_taC, size_zTA]) (taC_all _) ?_; clear t1; intro wn ht hcn hzn; have hsz := B.size; replace hzn := Nat.le_of_eq hzn.symm; replace B := Chg.below B hcn (by omega) B.size; (try replace r1 := r1.of_eq (hcn.block _ r1.lt (by omega))); (try replace rc := rc.of_eq (hcn.block _ rc.lt (by omega))); have t1 := ht; clear ht; simp only [Act.put, List.setIfInBounds_toArray, List.set_cons_zero, List.set_cons_succ]) | (refine wpList_allocBk (t := 79) rfl _ (run_alloc_TA _ _ rfl) ?_; intro b_t1 wn hle hge ht hbn hzn; have hsz := B.size; replace B := B.trans (hbn.mono (by omega)); have hln := Nat.lt_of_lt_of_eq (Nat.lt_succ_self _) hzn.symm; clear hzn; (try first | (have hlt := r1.lt; replace r1 := r1.of_eq (hbn.block _ (by omega))) | replace r1 := r1.below (hbn.mono hle)); (try first | (have hlt := t1.lt; replace t1 := t1.of_eq (hbn.block _ (by omega))) | replace t1 := t1.below (hbn.mono hle)); (try first | (have hlt := rc.lt; replace rc := rc.of_eq (hbn.block _ (by omega))) | replace rc := rc.below (hbn.mono hle)); have t1 := ht; clear ht; simp only [Act.put, List.setIfInBounds_toArray, List.set_cons_zero, List.set_cons_succ]) | (refine wpList_loadAny (t := 79) rfl _ rfl _ _ _ rfl (rc_ta rc hkl he) (by first | rfl | omega) ?_; simp only [Act.put, List.setIfInBounds_toArray, List.set_cons_zero, List.set_cons_succ]) | (refine wpList_loadAny (t := 28) rfl _ rfl _ _ _ rfl (run_load_sl r1.cell0) (by rfl) ?_; simp only [Act.put, List.setIfInBounds_toArray, List.set_cons_zero, List.set_cons_succ]) | fail)
          refine wp_region_ov (by kernel_rfl) (by kernel_rfl) ?_
          repeat (first | go_big_quiet_skip | (go_big_quiet_want; first | (refine quiet_loadAny (t := 40) rfl _ _ _ rfl (fun w hw => ta_tile (ov_B t1 w hw)) (by first | rfl | omega) ?_; simp only [Act.put, List.setIfInBounds_toArray, List.set_cons_zero, List.set_cons_succ]; go_big_quiet_on) | (go_big_quiet_op; first | go_big_quiet_on | go_big_quiet_call ((first | (go_at_call 58; exact calls_ov (R_Clean_t _ _ htk)) | (go_at_call 57; exact calls_ov (R_Same _ _ _)))))))
          refine wpQuiet_nil ?_
          intro wn hbn
          have hsz := B.size
          have hzn := hbn.size
          replace B := B.trans (hbn.mono B.size)
          try first | replace r1 := r1.of_eq (hbn.block _ r1.lt) | replace r1 := r1.below hbn
          try first | replace t1 := t1.of_eq (hbn.block _ t1.lt) | replace t1 := t1.below hbn
          try first | replace rc := rc.of_eq (hbn.block _ rc.lt) | replace rc := rc.below hbn
          go_wp2
          refine wp_region_ov (by kernel_rfl) (by kernel_rfl) ?_
          repeat (first | go_big_quiet_skip | (go_big_quiet_want; first | (refine quiet_loadAny (t := 24) rfl _ _ _ rfl (fun w hw => ta_pos (ov_B t1 w hw)) (by first | rfl | omega) ?_; simp only [Act.put, List.setIfInBounds_toArray, List.set_cons_zero, List.set_cons_succ]; go_big_quiet_on) | (refine quiet_loadAny (t := 28) rfl _ _ _ rfl (fun w hw => run_load_sl (ov_B r1 w hw).cell0) (by rfl) ?_; simp only [Act.put, List.setIfInBounds_toArray, List.set_cons_zero, List.set_cons_succ]; go_big_quiet_on) | (refine quiet_loadAny (t := 24) rfl _ _ _ rfl (fun w hw => rc_pos (ov_rc rc w hw) hk1 he') (by first | rfl | omega) ?_; simp only [Act.put, List.setIfInBounds_toArray, List.set_cons_zero, List.set_cons_succ]; go_big_quiet_on) | (go_big_quiet_op; first | go_big_quiet_on | go_big_quiet_call ((first | (go_at_call 59; exact calls_ov (R_within _ _ _)) | (go_at_call 60; exact calls_ov (R_less _ _ _ _ _)))))))
          refine wpQuiet_nil ?_
          intro wn hbn
          have hsz := B.size
          have hzn := hbn.size
          replace B := B.trans (hbn.mono B.size)
          try first | replace r1 := r1.of_eq (hbn.block _ r1.lt) | replace r1 := r1.below hbn
          try first | replace t1 := t1.of_eq (hbn.block _ t1.lt) | replace t1 := t1.below hbn
          try first | replace rc := rc.of_eq (hbn.block _ rc.lt) | replace rc := rc.below hbn
          go_wp2
          go_ret
          exact ⟨by rw [validL_no hkl E.out]; try rfl, B⟩
        | true =>
          cases h2 : zeroB t with
          | true =>
            have E := Lib.hid (step_zero he h2)
            go_wp2_with (first | (go_at_call 56; refine (R_Zero _ _).mono ?_; rintro e wn ⟨rfl, hbn⟩; have hsz := B.size; have hzn := hbn.size; replace B := B.trans (hbn.mono B.size); (try first | replace r1 := r1.of_eq (hbn.block _ r1.lt) | replace r1 := r1.below hbn); (try first | replace t1 := t1.of_eq (hbn.block _ t1.lt) | replace t1 := t1.below hbn); (try first | replace rc := rc.of_eq (hbn.block _ rc.lt) | replace rc := rc.below hbn)) | (refine wpList_loadAny (t := 40) rfl _ rfl _ _ _ rfl (ta_tile t1) (by first | rfl | omega) ?_; simp only [Act.put, List.setIfInBounds_toArray, List.set_cons_zero, List.set_cons_succ]) | (refine wpList_storeB (t := 79) rfl _ _ rfl _ rfl _ rfl t1 (by rw [size_taC]; kernel_rfl) (by simp only [size_taC, size_zTA]) (taC_all _) ?_; clear t1; intro wn ht hcn hzn; have hsz := B.size; replace hzn := Nat.le_of_eq hzn.symm; replace B := Chg.below B hcn (by omega) B.size; (try replace r1 := r1.of_eq (hcn.block _ r1.lt (by omega))); (try replace rc := rc.of_eq (hcn.block _ rc.lt (by omega))); have t1 := ht; clear ht; simp only [Act.put, List.setIfInBounds_toArray, List.set_cons_zero, List.set_cons_succ]) | (refine wpList_allocBk (t := 79) rfl _ (run_alloc_TA _ _ rfl) ?_; intro b_t1 wn hle hge ht hbn hzn; have hsz := B.size; replace B := B.trans (hbn.mono (by omega)); have hln := Nat.lt_of_lt_of_eq (Nat.lt_succ_self _) hzn.symm; clear hzn; (try first | (have hlt := r1.lt; replace r1 := r1.of_eq (hbn.block _ (by omega))) | replace r1 := r1.below (hbn.mono hle)); (try first | (have hlt := t1.lt; replace t1 := t1.of_eq (hbn.block _ (by omega))) | replace t1 := t1.below (hbn.mono hle)); (try first | (have hlt := rc.lt; replace rc := rc.of_eq (hbn.block _ (by omega))) | replace rc := rc.below (hbn.mono hle)); have t1 := ht; clear ht; simp only [Act.put, List.setIfInBounds_toArray, List.set_cons_zero, List.set_cons_succ]) | (refine wpList_loadAny (t := 79) rfl _ rfl _ _ _ rfl (rc_ta rc hkl he) (by first | rfl | omega) ?_; simp only [Act.put, List.setIfInBounds_toArray, List.set_cons_zero, List.set_cons_succ]) | (refine wpList_loadAny (t := 28) rfl _ rfl _ _ _ rfl (run_load_sl r1.cell0) (by rfl) ?_; simp only [Act.put, List.setIfInBounds_toArray, List.set_cons_zero, List.set_cons_succ]) | fail)
            refine wp_region_ov (by kernel_rfl) (by kernel_rfl) ?_
            repeat (first | go_big_quiet_skip | (go_big_quiet_want; first | (refine quiet_loadAny (t := 40) rfl _ _ _ rfl (fun w hw => ta_tile (ov_B t1 w hw)) (by first | rfl | omega) ?_; simp only [Act.put, List.setIfInBounds_toArray, List.set_cons_zero, List.set_cons_succ]; go_big_quiet_on) | (go_big_quiet_op; first | go_big_quiet_on | go_big_quiet_call ((first | (go_at_call 58; exact calls_ov (R_Clean_t _ _ htk)) | (go_at_call 57; exact calls_ov (R_Same _ _ _)))))))
            refine wpQuiet_nil ?_
            intro wn hbn
            have hsz := B.size
            have hzn := hbn.size
            replace B := B.trans (hbn.mono B.size)
            try first | replace r1 := r1.of_eq (hbn.block _ r1.lt) | replace r1 := r1.below hbn
            try first | replace t1 := t1.of_eq (hbn.block _ t1.lt) | replace t1 := t1.below hbn
            try first | replace rc := rc.of_eq (hbn.block _ rc.lt) | replace rc := rc.below hbn
            go_wp2
            refine wp_region_ov (by kernel_rfl) (by kernel_rfl) ?_
            repeat (first | go_big_quiet_skip | (go_big_quiet_want; first | (refine quiet_loadAny (t := 24) rfl _ _ _ rfl (fun w hw => ta_pos (ov_B t1 w hw)) (by first | rfl | omega) ?_; simp only [Act.put, List.setIfInBounds_toArray, List.set_cons_zero, List.set_cons_succ]; go_big_quiet_on) | (refine quiet_loadAny (t := 28) rfl _ _ _ rfl (fun w hw => run_load_sl (ov_B r1 w hw).cell0) (by rfl) ?_; simp only [Act.put, List.setIfInBounds_toArray, List.set_cons_zero, List.set_cons_succ]; go_big_quiet_on) | (refine quiet_loadAny (t := 24) rfl _ _ _ rfl (fun w hw => rc_pos (ov_rc rc w hw) hk1 he') (by first | rfl | omega) ?_; simp only [Act.put, List.setIfInBounds_toArray, List.set_cons_zero, List.set_cons_succ]; go_big_quiet_on) | (go_big_quiet_op; first | go_big_quiet_on | go_big_quiet_call ((first | (go_at_call 59; exact calls_ov (R_within _ _ _)) | (go_at_call 60; exact calls_ov (R_less _ _ _ _ _)))))))
            refine wpQuiet_nil ?_
            intro wn hbn
            have hsz := B.size
            have hzn := hbn.size
            replace B := B.trans (hbn.mono B.size)
            try first | replace r1 := r1.of_eq (hbn.block _ r1.lt) | replace r1 := r1.below hbn
            try first | replace t1 := t1.of_eq (hbn.block _ t1.lt) | replace t1 := t1.below hbn
            try first | replace rc := rc.of_eq (hbn.block _ rc.lt) | replace rc := rc.below hbn
            go_wp2
            go_ret
            exact ⟨by rw [validL_no hkl E.out]; try rfl, B⟩
          | false =>
            cases h3 : eqT (cleanT t) t with
            | false =>
              have E := Lib.hid (step_clean he h3)
              go_wp2_with (first | (go_at_call 56; refine (R_Zero _ _).mono ?_; rintro e wn ⟨rfl, hbn⟩; have hsz := B.size; have hzn := hbn.size; replace B := B.trans (hbn.mono B.size); (try first | replace r1 := r1.of_eq (hbn.block _ r1.lt) | replace r1 := r1.below hbn); (try first | replace t1 := t1.of_eq (hbn.block _ t1.lt) | replace t1 := t1.below hbn); (try first | replace rc := rc.of_eq (hbn.block _ rc.lt) | replace rc := rc.below hbn)) | (refine wpList_loadAny (t := 40) rfl _ rfl _ _ _ rfl (ta_tile t1) (by first | rfl | omega) ?_; simp only [Act.put, List.setIfInBounds_toArray, List.set_cons_zero, List.set_cons_succ]) | (refine wpList_storeB (t := 79) rfl _ _ rfl _ rfl _ rfl t1 (by rw [size_taC]; kernel_rfl) (by simp only [size_taC, size_zTA]) (taC_all _) ?_; clear t1; intro wn ht hcn hzn; have hsz := B.size; replace hzn := Nat.le_of_eq hzn.symm; replace B := Chg.below B hcn (by omega) B.size; (try replace r1 := r1.of_eq (hcn.block _ r1.lt (by omega))); (try replace rc := rc.of_eq (hcn.block _ rc.lt (by omega))); have t1 := ht; clear ht; simp only [Act.put, List.setIfInBounds_toArray, List.set_cons_zero, List.set_cons_succ]) | (refine wpList_allocBk (t := 79) rfl _ (run_alloc_TA _ _ rfl) ?_; intro b_t1 wn hle hge ht hbn hzn; have hsz := B.size; replace B := B.trans (hbn.mono (by omega)); have hln := Nat.lt_of_lt_of_eq (Nat.lt_succ_self _) hzn.symm; clear hzn; (try first | (have hlt := r1.lt; replace r1 := r1.of_eq (hbn.block _ (by omega))) | replace r1 := r1.below (hbn.mono hle)); (try first | (have hlt := t1.lt; replace t1 := t1.of_eq (hbn.block _ (by omega))) | replace t1 := t1.below (hbn.mono hle)); (try first | (have hlt := rc.lt; replace rc := rc.of_eq (hbn.block _ (by omega))) | replace rc := rc.below (hbn.mono hle)); have t1 := ht; clear ht; simp only [Act.put, List.setIfInBounds_toArray, List.set_cons_zero, List.set_cons_succ]) | (refine wpList_loadAny (t := 79) rfl _ rfl _ _ _ rfl (rc_ta rc hkl he) (by first | rfl | omega) ?_; simp only [Act.put, List.setIfInBounds_toArray, List.set_cons_zero, List.set_cons_succ]) | (refine wpList_loadAny (t := 28) rfl _ rfl _ _ _ rfl (run_load_sl r1.cell0) (by rfl) ?_; simp only [Act.put, List.setIfInBounds_toArray, List.set_cons_zero, List.set_cons_succ]) | fail)
              refine wp_region_ov (by kernel_rfl) (by kernel_rfl) ?_
              repeat (first | go_big_quiet_skip | (go_big_quiet_want; first | (refine quiet_loadAny (t := 40) rfl _ _ _ rfl (fun w hw => ta_tile (ov_B t1 w hw)) (by first | rfl | omega) ?_; simp only [Act.put, List.setIfInBounds_toArray, List.set_cons_zero, List.set_cons_succ]; go_big_quiet_on) | (go_big_quiet_op; first | go_big_quiet_on | go_big_quiet_call ((first | (go_at_call 58; exact calls_ov (R_Clean_t _ _ htk)) | (go_at_call 57; exact calls_ov (R_Same _ _ _)))))))
              refine wpQuiet_nil ?_
              intro wn hbn
              have hsz := B.size
              have hzn := hbn.size
              replace B := B.trans (hbn.mono B.size)
              try first | replace r1 := r1.of_eq (hbn.block _ r1.lt) | replace r1 := r1.below hbn
              try first | replace t1 := t1.of_eq (hbn.block _ t1.lt) | replace t1 := t1.below hbn
              try first | replace rc := rc.of_eq (hbn.block _ rc.lt) | replace rc := rc.below hbn
              go_wp2
              refine wp_region_ov (by kernel_rfl) (by kernel_rfl) ?_
              repeat (first | go_big_quiet_skip | (go_big_quiet_want; first | (refine quiet_loadAny (t := 24) rfl _ _ _ rfl (fun w hw => ta_pos (ov_B t1 w hw)) (by first | rfl | omega) ?_; simp only [Act.put, List.setIfInBounds_toArray, List.set_cons_zero, List.set_cons_succ]; go_big_quiet_on) | (refine quiet_loadAny (t := 28) rfl _ _ _ rfl (fun w hw => run_load_sl (ov_B r1 w hw).cell0) (by rfl) ?_; simp only [Act.put, List.setIfInBounds_toArray, List.set_cons_zero, List.set_cons_succ]; go_big_quiet_on) | (refine quiet_loadAny (t := 24) rfl _ _ _ rfl (fun w hw => rc_pos (ov_rc rc w hw) hk1 he') (by first | rfl | omega) ?_; simp only [Act.put, List.setIfInBounds_toArray, List.set_cons_zero, List.set_cons_succ]; go_big_quiet_on) | (go_big_quiet_op; first | go_big_quiet_on | go_big_quiet_call ((first | (go_at_call 59; exact calls_ov (R_within _ _ _)) | (go_at_call 60; exact calls_ov (R_less _ _ _ _ _)))))))
              refine wpQuiet_nil ?_
              intro wn hbn
              have hsz := B.size
              have hzn := hbn.size
              replace B := B.trans (hbn.mono B.size)
              try first | replace r1 := r1.of_eq (hbn.block _ r1.lt) | replace r1 := r1.below hbn
              try first | replace t1 := t1.of_eq (hbn.block _ t1.lt) | replace t1 := t1.below hbn
              try first | replace rc := rc.of_eq (hbn.block _ rc.lt) | replace rc := rc.below hbn
              go_wp2
              go_ret
              exact ⟨by rw [validL_no hkl E.out]; try rfl, B⟩
            | true =>
              by_cases hk0 : 0 < k
              · have E := Lib.hid (step_less hk0 he he' h1 h2 h3)
                have d3 : decide ((0 : Int) < (k : Int)) = true := decide_eq_true (by omega)
                have d4 : decide (0 < k) = true := decide_eq_true hk0
                cases h4 : lessB x' y' x y with
                | false =>
                  have hO : decide (0 ≤ ordI x' y' x y) = true := by rw [ordI_ge, h4]; rfl
                  go_wp2_with (first | (go_at_call 56; refine (R_Zero _ _).mono ?_; rintro e wn ⟨rfl, hbn⟩; have hsz := B.size; have hzn := hbn.size; replace B := B.trans (hbn.mono B.size); (try first | replace r1 := r1.of_eq (hbn.block _ r1.lt) | replace r1 := r1.below hbn); (try first | replace t1 := t1.of_eq (hbn.block _ t1.lt) | replace t1 := t1.below hbn); (try first | replace rc := rc.of_eq (hbn.block _ rc.lt) | replace rc := rc.below hbn)) | (refine wpList_loadAny (t := 40) rfl _ rfl _ _ _ rfl (ta_tile t1) (by first | rfl | omega) ?_; simp only [Act.put, List.setIfInBounds_toArray, List.set_cons_zero, List.set_cons_succ]) | (refine wpList_storeB (t := 79) rfl _ _ rfl _ rfl _ rfl t1 (by rw [size_taC]; kernel_rfl) (by simp only [size_taC, size_zTA]) (taC_all _) ?_; clear t1; intro wn ht hcn hzn; have hsz := B.size; replace hzn := Nat.le_of_eq hzn.symm; replace B := Chg.below B hcn (by omega) B.size; (try replace r1 := r1.of_eq (hcn.block _ r1.lt (by omega))); (try replace rc := rc.of_eq (hcn.block _ rc.lt (by omega))); have t1 := ht; clear ht; simp only [Act.put, List.setIfInBounds_toArray, List.set_cons_zero, List.set_cons_succ]) | (refine wpList_allocBk (t := 79) rfl _ (run_alloc_TA _ _ rfl) ?_; intro b_t1 wn hle hge ht hbn hzn; have hsz := B.size; replace B := B.trans (hbn.mono (by omega)); have hln := Nat.lt_of_lt_of_eq (Nat.lt_succ_self _) hzn.symm; clear hzn; (try first | (have hlt := r1.lt; replace r1 := r1.of_eq (hbn.block _ (by omega))) | replace r1 := r1.below (hbn.mono hle)); (try first | (have hlt := t1.lt; replace t1 := t1.of_eq (hbn.block _ (by omega))) | replace t1 := t1.below (hbn.mono hle)); (try first | (have hlt := rc.lt; replace rc := rc.of_eq (hbn.block _ (by omega))) | replace rc := rc.below (hbn.mono hle)); have t1 := ht; clear ht; simp only [Act.put, List.setIfInBounds_toArray, List.set_cons_zero, List.set_cons_succ]) | (refine wpList_loadAny (t := 79) rfl _ rfl _ _ _ rfl (rc_ta rc hkl he) (by first | rfl | omega) ?_; simp only [Act.put, List.setIfInBounds_toArray, List.set_cons_zero, List.set_cons_succ]) | (refine wpList_loadAny (t := 28) rfl _ rfl _ _ _ rfl (run_load_sl r1.cell0) (by rfl) ?_; simp only [Act.put, List.setIfInBounds_toArray, List.set_cons_zero, List.set_cons_succ]) | fail)
                  refine wp_region_ov (by kernel_rfl) (by kernel_rfl) ?_
                  repeat (first | go_big_quiet_skip | (go_big_quiet_want; first | (refine quiet_loadAny (t := 40) rfl _ _ _ rfl (fun w hw => ta_tile (ov_B t1 w hw)) (by first | rfl | omega) ?_; simp only [Act.put, List.setIfInBounds_toArray, List.set_cons_zero, List.set_cons_succ]; go_big_quiet_on) | (go_big_quiet_op; first | go_big_quiet_on | go_big_quiet_call ((first | (go_at_call 58; exact calls_ov (R_Clean_t _ _ htk)) | (go_at_call 57; exact calls_ov (R_Same _ _ _)))))))
                  refine wpQuiet_nil ?_
                  intro wn hbn
                  have hsz := B.size
                  have hzn := hbn.size
                  replace B := B.trans (hbn.mono B.size)
                  try first | replace r1 := r1.of_eq (hbn.block _ r1.lt) | replace r1 := r1.below hbn
                  try first | replace t1 := t1.of_eq (hbn.block _ t1.lt) | replace t1 := t1.below hbn
                  try first | replace rc := rc.of_eq (hbn.block _ rc.lt) | replace rc := rc.below hbn
                  go_wp2
                  refine wp_region_ov (by kernel_rfl) (by kernel_rfl) ?_
                  repeat (first | go_big_quiet_skip | (go_big_quiet_want; first | (refine quiet_loadAny (t := 24) rfl _ _ _ rfl (fun w hw => ta_pos (ov_B t1 w hw)) (by first | rfl | omega) ?_; simp only [Act.put, List.setIfInBounds_toArray, List.set_cons_zero, List.set_cons_succ]; go_big_quiet_on) | (refine quiet_loadAny (t := 28) rfl _ _ _ rfl (fun w hw => run_load_sl (ov_B r1 w hw).cell0) (by rfl) ?_; simp only [Act.put, List.setIfInBounds_toArray, List.set_cons_zero, List.set_cons_succ]; go_big_quiet_on) | (refine quiet_loadAny (t := 24) rfl _ _ _ rfl (fun w hw => rc_pos (ov_rc rc w hw) hk1 he') (by first | rfl | omega) ?_; simp only [Act.put, List.setIfInBounds_toArray, List.set_cons_zero, List.set_cons_succ]; go_big_quiet_on) | (go_big_quiet_op; first | go_big_quiet_on | go_big_quiet_call ((first | (go_at_call 59; exact calls_ov (R_within _ _ _)) | (go_at_call 60; exact calls_ov (R_less _ _ _ _ _)))))))
                  refine wpQuiet_nil ?_
                  intro wn hbn
                  have hsz := B.size
                  have hzn := hbn.size
                  replace B := B.trans (hbn.mono B.size)
                  try first | replace r1 := r1.of_eq (hbn.block _ r1.lt) | replace r1 := r1.below hbn
                  try first | replace t1 := t1.of_eq (hbn.block _ t1.lt) | replace t1 := t1.below hbn
                  try first | replace rc := rc.of_eq (hbn.block _ rc.lt) | replace rc := rc.below hbn
                  go_wp2
                  go_ret
                  exact ⟨by rw [validL_no hkl (E.out.trans h4)]; try rfl, B⟩
                | true =>
                  have hO : decide (0 ≤ ordI x' y' x y) = false := by rw [ordI_ge, h4]; rfl
                  go_wp2_with (first | (go_at_call 56; refine (R_Zero _ _).mono ?_; rintro e wn ⟨rfl, hbn⟩; have hsz := B.size; have hzn := hbn.size; replace B := B.trans (hbn.mono B.size); (try first | replace r1 := r1.of_eq (hbn.block _ r1.lt) | replace r1 := r1.below hbn); (try first | replace t1 := t1.of_eq (hbn.block _ t1.lt) | replace t1 := t1.below hbn); (try first | replace rc := rc.of_eq (hbn.block _ rc.lt) | replace rc := rc.below hbn)) | (refine wpList_loadAny (t := 40) rfl _ rfl _ _ _ rfl (ta_tile t1) (by first | rfl | omega) ?_; simp only [Act.put, List.setIfInBounds_toArray, List.set_cons_zero, List.set_cons_succ]) | (refine wpList_storeB (t := 79) rfl _ _ rfl _ rfl _ rfl t1 (by rw [size_taC]; kernel_rfl) (by simp only [size_taC, size_zTA]) (taC_all _) ?_; clear t1; intro wn ht hcn hzn; have hsz := B.size; replace hzn := Nat.le_of_eq hzn.symm; replace B := Chg.below B hcn (by omega) B.size; (try replace r1 := r1.of_eq (hcn.block _ r1.lt (by omega))); (try replace rc := rc.of_eq (hcn.block _ rc.lt (by omega))); have t1 := ht; clear ht; simp only [Act.put, List.setIfInBounds_toArray, List.set_cons_zero, List.set_cons_succ]) | (refine wpList_allocBk (t := 79) rfl _ (run_alloc_TA _ _ rfl) ?_; intro b_t1 wn hle hge ht hbn hzn; have hsz := B.size; replace B := B.trans (hbn.mono (by omega)); have hln := Nat.lt_of_lt_of_eq (Nat.lt_succ_self _) hzn.symm; clear hzn; (try first | (have hlt := r1.lt; replace r1 := r1.of_eq (hbn.block _ (by omega))) | replace r1 := r1.below (hbn.mono hle)); (try first | (have hlt := t1.lt; replace t1 := t1.of_eq (hbn.block _ (by omega))) | replace t1 := t1.below (hbn.mono hle)); (try first | (have hlt := rc.lt; replace rc := rc.of_eq (hbn.block _ (by omega))) | replace rc := rc.below (hbn.mono hle)); have t1 := ht; clear ht; simp only [Act.put, List.setIfInBounds_toArray, List.set_cons_zero, List.set_cons_succ]) | (refine wpList_loadAny (t := 79) rfl _ rfl _ _ _ rfl (rc_ta rc hkl he) (by first | rfl | omega) ?_; simp only [Act.put, List.setIfInBounds_toArray, List.set_cons_zero, List.set_cons_succ]) | (refine wpList_loadAny (t := 28) rfl _ rfl _ _ _ rfl (run_load_sl r1.cell0) (by rfl) ?_; simp only [Act.put, List.setIfInBounds_toArray, List.set_cons_zero, List.set_cons_succ]) | fail)
                  refine wp_region_ov (by kernel_rfl) (by kernel_rfl) ?_
                  repeat (first | go_big_quiet_skip | (go_big_quiet_want; first | (refine quiet_loadAny (t := 40) rfl _ _ _ rfl (fun w hw => ta_tile (ov_B t1 w hw)) (by first | rfl | omega) ?_; simp only [Act.put, List.setIfInBounds_toArray, List.set_cons_zero, List.set_cons_succ]; go_big_quiet_on) | (go_big_quiet_op; first | go_big_quiet_on | go_big_quiet_call ((first | (go_at_call 58; exact calls_ov (R_Clean_t _ _ htk)) | (go_at_call 57; exact calls_ov (R_Same _ _ _)))))))
                  refine wpQuiet_nil ?_
                  intro wn hbn
                  have hsz := B.size
                  have hzn := hbn.size
                  replace B := B.trans (hbn.mono B.size)
                  try first | replace r1 := r1.of_eq (hbn.block _ r1.lt) | replace r1 := r1.below hbn
                  try first | replace t1 := t1.of_eq (hbn.block _ t1.lt) | replace t1 := t1.below hbn
                  try first | replace rc := rc.of_eq (hbn.block _ rc.lt) | replace rc := rc.below hbn
                  go_wp2
                  refine wp_region_ov (by kernel_rfl) (by kernel_rfl) ?_
                  repeat (first | go_big_quiet_skip | (go_big_quiet_want; first | (refine quiet_loadAny (t := 24) rfl _ _ _ rfl (fun w hw => ta_pos (ov_B t1 w hw)) (by first | rfl | omega) ?_; simp only [Act.put, List.setIfInBounds_toArray, List.set_cons_zero, List.set_cons_succ]; go_big_quiet_on) | (refine quiet_loadAny (t := 28) rfl _ _ _ rfl (fun w hw => run_load_sl (ov_B r1 w hw).cell0) (by rfl) ?_; simp only [Act.put, List.setIfInBounds_toArray, List.set_cons_zero, List.set_cons_succ]; go_big_quiet_on) | (refine quiet_loadAny (t := 24) rfl _ _ _ rfl (fun w hw => rc_pos (ov_rc rc w hw) hk1 he') (by first | rfl | omega) ?_; simp only [Act.put, List.setIfInBounds_toArray, List.set_cons_zero, List.set_cons_succ]; go_big_quiet_on) | (go_big_quiet_op; first | go_big_quiet_on | go_big_quiet_call ((first | (go_at_call 59; exact calls_ov (R_within _ _ _)) | (go_at_call 60; exact calls_ov (R_less _ _ _ _ _)))))))
                  refine wpQuiet_nil ?_
                  intro wn hbn
                  have hsz := B.size
                  have hzn := hbn.size
                  replace B := B.trans (hbn.mono B.size)
                  try first | replace r1 := r1.of_eq (hbn.block _ r1.lt) | replace r1 := r1.below hbn
                  try first | replace t1 := t1.of_eq (hbn.block _ t1.lt) | replace t1 := t1.below hbn
                  try first | replace rc := rc.of_eq (hbn.block _ rc.lt) | replace rc := rc.below hbn
                  go_wp2
                  go_roundw
                  case rel => exact ⟨k + 1, by omega, by go_num, B, by omega, r1, fun j hj => by
                    by_cases e : j = k
                    · rw [e, E.out, h4]
                    · exact Hst.out j (by omega)⟩
                  case measure => simp [intOf]; omega
              · obtain rfl : k = 0 := by omega
                have E := Lib.hid (step_first he h1 h2 h3)
                go_wp2_with (first | (go_at_call 56; refine (R_Zero _ _).mono ?_; rintro e wn ⟨rfl, hbn⟩; have hsz := B.size; have hzn := hbn.size; replace B := B.trans (hbn.mono B.size); (try first | replace r1 := r1.of_eq (hbn.block _ r1.lt) | replace r1 := r1.below hbn); (try first | replace t1 := t1.of_eq (hbn.block _ t1.lt) | replace t1 := t1.below hbn); (try first | replace rc := rc.of_eq (hbn.block _ rc.lt) | replace rc := rc.below hbn)) | (refine wpList_loadAny (t := 40) rfl _ rfl _ _ _ rfl (ta_tile t1) (by first | rfl | omega) ?_; simp only [Act.put, List.setIfInBounds_toArray, List.set_cons_zero, List.set_cons_succ]) | (refine wpList_storeB (t := 79) rfl _ _ rfl _ rfl _ rfl t1 (by rw [size_taC]; kernel_rfl) (by simp only [size_taC, size_zTA]) (taC_all _) ?_; clear t1; intro wn ht hcn hzn; have hsz := B.size; replace hzn := Nat.le_of_eq hzn.symm; replace B := Chg.below B hcn (by omega) B.size; (try replace r1 := r1.of_eq (hcn.block _ r1.lt (by omega))); (try replace rc := rc.of_eq (hcn.block _ rc.lt (by omega))); have t1 := ht; clear ht; simp only [Act.put, List.setIfInBounds_toArray, List.set_cons_zero, List.set_cons_succ]) | (refine wpList_allocBk (t := 79) rfl _ (run_alloc_TA _ _ rfl) ?_; intro b_t1 wn hle hge ht hbn hzn; have hsz := B.size; replace B := B.trans (hbn.mono (by omega)); have hln := Nat.lt_of_lt_of_eq (Nat.lt_succ_self _) hzn.symm; clear hzn; (try first | (have hlt := r1.lt; replace r1 := r1.of_eq (hbn.block _ (by omega))) | replace r1 := r1.below (hbn.mono hle)); (try first | (have hlt := t1.lt; replace t1 := t1.of_eq (hbn.block _ (by omega))) | replace t1 := t1.below (hbn.mono hle)); (try first | (have hlt := rc.lt; replace rc := rc.of_eq (hbn.block _ (by omega))) | replace rc := rc.below (hbn.mono hle)); have t1 := ht; clear ht; simp only [Act.put, List.setIfInBounds_toArray, List.set_cons_zero, List.set_cons_succ]) | (refine wpList_loadAny (t := 79) rfl _ rfl _ _ _ rfl (rc_ta rc hkl he) (by first | rfl | omega) ?_; simp only [Act.put, List.setIfInBounds_toArray, List.set_cons_zero, List.set_cons_succ]) | (refine wpList_loadAny (t := 28) rfl _ rfl _ _ _ rfl (run_load_sl r1.cell0) (by rfl) ?_; simp only [Act.put, List.setIfInBounds_toArray, List.set_cons_zero, List.set_cons_succ]) | fail)
                refine wp_region_ov (by kernel_rfl) (by kernel_rfl) ?_
                repeat (first | go_big_quiet_skip | (go_big_quiet_want; first | (refine quiet_loadAny (t := 40) rfl _ _ _ rfl (fun w hw => ta_tile (ov_B t1 w hw)) (by first | rfl | omega) ?_; simp only [Act.put, List.setIfInBounds_toArray, List.set_cons_zero, List.set_cons_succ]; go_big_quiet_on) | (go_big_quiet_op; first | go_big_quiet_on | go_big_quiet_call ((first | (go_at_call 58; exact calls_ov (R_Clean_t _ _ htk)) | (go_at_call 57; exact calls_ov (R_Same _ _ _)))))))
                refine wpQuiet_nil ?_
                intro wn hbn
                have hsz := B.size
                have hzn := hbn.size
                replace B := B.trans (hbn.mono B.size)
                try first | replace r1 := r1.of_eq (hbn.block _ r1.lt) | replace r1 := r1.below hbn
                try first | replace t1 := t1.of_eq (hbn.block _ t1.lt) | replace t1 := t1.below hbn
                try first | replace rc := rc.of_eq (hbn.block _ rc.lt) | replace rc := rc.below hbn
                go_wp2
                refine wp_region_ov (by kernel_rfl) (by kernel_rfl) ?_
                repeat (first | go_big_quiet_skip | (go_big_quiet_want; first | (refine quiet_loadAny (t := 24) rfl _ _ _ rfl (fun w hw => ta_pos (ov_B t1 w hw)) (by first | rfl | omega) ?_; simp only [Act.put, List.setIfInBounds_toArray, List.set_cons_zero, List.set_cons_succ]; go_big_quiet_on) | (refine quiet_loadAny (t := 28) rfl _ _ _ rfl (fun w hw => run_load_sl (ov_B r1 w hw).cell0) (by rfl) ?_; simp only [Act.put, List.setIfInBounds_toArray, List.set_cons_zero, List.set_cons_succ]; go_big_quiet_on) | (refine quiet_loadAny (t := 24) rfl _ _ _ rfl (fun w hw => rc_pos (ov_rc rc w hw) hk1 he') (by first | rfl | omega) ?_; simp only [Act.put, List.setIfInBounds_toArray, List.set_cons_zero, List.set_cons_succ]; go_big_quiet_on) | (go_big_quiet_op; first | go_big_quiet_on | go_big_quiet_call ((first | (go_at_call 59; exact calls_ov (R_within _ _ _)) | (go_at_call 60; exact calls_ov (R_less _ _ _ _ _)))))))
                refine wpQuiet_nil ?_
                intro wn hbn
                have hsz := B.size
                have hzn := hbn.size
                replace B := B.trans (hbn.mono B.size)
                try first | replace r1 := r1.of_eq (hbn.block _ r1.lt) | replace r1 := r1.below hbn
                try first | replace t1 := t1.of_eq (hbn.block _ t1.lt) | replace t1 := t1.below hbn
                try first | replace rc := rc.of_eq (hbn.block _ rc.lt) | replace rc := rc.below hbn
                go_wp2
                go_roundw
                case rel => exact ⟨1, by omega, by go_num, B, by omega, r1, fun j hj => by
                  obtain rfl : j = 0 := by omega
                  exact E.out⟩
                case measure => simp [intOf]; omega
      · have dlt : decide ((k : Int) < (ls.length : Int)) = false := decide_eq_false (by omega)
        have e1 := Lib.hid (validL_yes (by omega) (fun j hj => Hst.out j (by omega)))
        go_wp2_with (first | (refine wpList_loadAny (t := 28) rfl _ rfl _ _ _ rfl (run_load_sl r1.cell0) (by rfl) ?_; simp only [Act.put, List.setIfInBounds_toArray, List.set_cons_zero, List.set_cons_succ]) | fail)
        go_ret
        exact ⟨by rw [e1.out]; try rfl, B⟩
end Go.Proofs.Ytppccnjckiedlaa
