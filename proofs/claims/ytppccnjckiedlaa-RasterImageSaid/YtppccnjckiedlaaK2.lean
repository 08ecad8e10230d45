import Derived.Test.YtppccnjckiedlaaK1
import Derived.Test.YtppccnjckiedlaaRq
import Derived.Test.YtppccnjckiedlaaRp

/- The sanity check of the raster laws: its values. -/
namespace Go.Proofs.Ytppccnjckiedlaa
open Go.RowKit Go.Shelf Pl
set_option linter.unusedVariables false
set_option linter.unusedSimpArgs false
set_option maxRecDepth 20000

def sP : Px := ⟨9, 0, 0, 255⟩
def sQ : Px := ⟨1, 0, 0, 0⟩
def sC : Rc := ⟨-2, 9, 0, 10⟩
theorem sP_ok : sP.ok := by unfold Px.ok sP; simp
theorem sQ_ok : sQ.ok := by unfold Px.ok sQ; simp
theorem s1 : setE [] (-1) 9 sP = 0 := by decide
theorem s2 : setR [] (-1) 9 sP = [⟨-1, 1, cleanT (setT zT 7 1 sP)⟩] := by rfl
def sR1 : List TA := [⟨-1, 1, cleanT (setT zT 7 1 sP)⟩]
theorem s3 : validL sR1 = true := by decide
theorem s4 : fineL sR1 = sR1 := fineL_of s3
theorem s5 : setE sR1 (-1) 9 sQ = 0 := by decide
theorem s6 : setR sR1 (-1) 9 sQ = [] := by rfl
theorem s7 : setE sR1 65536 0 sP = 1 := by decide
theorem s8 : fitsE sC = 0 := by decide
theorem s9 : getT (tileL sR1 (-1) 1) 7 1 = sP := by decide
theorem s10 : getL sR1 (-1) 9 = sP := by decide
theorem s11 : (imgPL sC sR1).length = 2 := by decide
theorem s12 : (imgPL sC sR1)[1]? = some sP := by decide
theorem s13 : boundL sR1 = ⟨-1, 9, 0, 10⟩ := by rfl

theorem sR1_tok : TokL sR1 := by
  have := setR_tok (ls := []) (x := -1) (y := 9) TokL.nil sP_ok
  rw [s2] at this
  exact this
/-! ### '==' of rectangles -/
instance decRc : DecidableEq Rc := fun a b =>
  if h : a.x0 = b.x0 ∧ a.y0 = b.y0 ∧ a.x1 = b.x1 ∧ a.y1 = b.y1 then isTrue (by obtain ⟨a1, a2, a3, a4⟩ := a; obtain ⟨b1, b2, b3, b4⟩ := b; obtain ⟨rfl, rfl, rfl, rfl⟩ := h; rfl)
  else isFalse fun e => h (by rw [e]; exact ⟨rfl, rfl, rfl, rfl⟩)
theorem equalIn_rc (d : Nat) (a b : Rc) (w : World) : (Op.equalIn (d + 2) 64 (Rc.v a) (Rc.v b)).run Try.prog w = .ok (decide (a = b)) w := by
  have h : (Op.equalIn (d + 2) 64 (Rc.v a) (Rc.v b)).run Try.prog w = .ok (a.x0 == b.x0 && (a.y0 == b.y0 && (a.x1 == b.x1 && a.y1 == b.y1))) w := by
    simp only [Rc.v]
    by_cases h1 : a.x0 = b.x0 <;> by_cases h2 : a.y0 = b.y0 <;> by_cases h3 : a.x1 = b.x1 <;> by_cases h4 : a.y1 = b.y1 <;> simp [go_sem, h1, h2, h3, h4]
  rw [h]
  congr 1
  rw [Bool.eq_iff_iff]
  obtain ⟨a1, a2, a3, a4⟩ := a
  obtain ⟨b1, b2, b3, b4⟩ := b
  simp
theorem eql_rc (a b : Rc) (w : World) : (binOp .eql 64 (Rc.v a) (Rc.v b)).run Try.prog w = .ok (.bool (decide (a = b))) w := by
  have h := run_eql_struct (P := Try.prog) w 64 #[.int .i64 a.x0, .int .i64 a.y0, .int .i64 a.x1, .int .i64 a.y1] #[.int .i64 b.x0, .int .i64 b.y0, .int .i64 b.x1, .int .i64 b.y1]
  have e := equalIn_rc 9998 a b w
  unfold Rc.v at e ⊢
  rw [h, e]; rfl
theorem neq_rc (a b : Rc) (w : World) : (binOp .neq 64 (Rc.v a) (Rc.v b)).run Try.prog w = .ok (.bool (!decide (a = b))) w := by
  have h := run_neq_struct (P := Try.prog) w 64 #[.int .i64 a.x0, .int .i64 a.y0, .int .i64 a.x1, .int .i64 a.y1] #[.int .i64 b.x0, .int .i64 b.y0, .int .i64 b.x1, .int .i64 b.y1]
  have e := equalIn_rc 9998 a b w
  unfold Rc.v at e ⊢
  rw [h, e]; rfl
@[go_sem] theorem guard_rc (op : BinOp) (p q : Operand) (a b : Array Value) (w : World) : (eqGuard op 64 p q (.agg a) (.agg b)).run Try.prog w = .ok () w := run_eqGuard_agg w op 64 p q _ _ (by kernel_rfl)

theorem rce_px {g o : Nat} {ls : List Px} {w : World} (h : RCellsE pxE g o ls w) {i : Nat} {x : Px} (hi : ls[i]? = some x) : (Instr.loadAt 37 (.pointer (some ⟨g, o + i * 4, none⟩))).run Try.prog w = .ok (Px.v x) w :=
  h.load Try.isAgg37 hi

/-! ### The walk -/
set_option maxHeartbeats 2000000 in
theorem sanity08 (w : World) : Calls Try.prog 14 #[] w fun e w' => e = .returned (.bool true) ∧ Below w.heap.size w w' := by
  have B := Below.refl w.heap.size w
  have SET1 : Hid (∀ w, Calls Try.prog 26 #[.agg #[.slice none 0 0], .int .i64 (-1), .int .i64 9, Px.v sP] w fun e w' => ∃ a c, e = .returned (.tuple #[.agg #[.slice a 1 c], .int .i64 0]) ∧ RS (.slice a 1 c) sR1 w' ∧ Below w.heap.size w w') := Lib.hid fun w =>
    (P_SetR _ [] (-1) 9 sP w (RS.nil w) TokL.nil (by unfold maxLen; simp) (by rfl) (by rfl) sP_ok).mono fun e w' ⟨v, he, hr, hb⟩ => by
      obtain ⟨a, c, rfl, _⟩ := hr.len
      rw [s1] at he
      rw [s2] at he hr
      exact ⟨a, c, he, hr, hb⟩
  have SET2 : Hid (∀ v w, RS v sR1 w → Calls Try.prog 26 #[.agg #[v], .int .i64 (-1), .int .i64 9, Px.v sQ] w fun e w' => ∃ a c, e = .returned (.tuple #[.agg #[.slice a 0 c], .int .i64 0]) ∧ Below w.heap.size w w') := Lib.hid fun v w h =>
    (P_SetR _ sR1 (-1) 9 sQ w h sR1_tok (by unfold maxLen sR1; simp) (by rfl) (by rfl) sQ_ok).mono fun e w' ⟨v, he, hr, hb⟩ => by
      obtain ⟨a, c, rfl, _⟩ := hr.len
      rw [s5] at he
      rw [s6] at he hr
      exact ⟨a, c, he, hb⟩
  have SET3 : Hid (∀ v w, RS v sR1 w → Calls Try.prog 26 #[.agg #[v], .int .i64 65536, .int .i64 0, Px.v sP] w fun e w' => ∃ a n c, e = .returned (.tuple #[.agg #[.slice a n c], .int .i64 1]) ∧ Below w.heap.size w w') := Lib.hid fun v w h =>
    (P_SetR _ sR1 65536 0 sP w h sR1_tok (by unfold maxLen sR1; simp) (by rfl) (by rfl) sP_ok).mono fun e w' ⟨v, he, hr, hb⟩ => by
      obtain ⟨a, c, rfl, _⟩ := hr.len
      rw [s7] at he
      exact ⟨a, _, c, he, hb⟩
  have IMG : Hid (∀ v w, RS v sR1 w → Calls Try.prog 33 #[.agg #[v], .agg #[.int .i64 (-2), .int .i64 9, .int .i64 0, .int .i64 10]] w fun e w' => ∃ g o c, e = .returned (.tuple #[.agg (imgC sC (.slice (some ⟨g, o, none⟩) 2 c)), .int .i64 0]) ∧ RCellsE pxE g o (imgPL sC sR1) w' ∧ Below w.heap.size w w') := Lib.hid fun v w h =>
    (P_Image_ok _ sR1 sC w h sR1_tok (by unfold maxLen sR1; simp) s8).mono fun e w' ⟨u, he, hr, hb⟩ => by
      obtain ⟨a, c, rfl, _⟩ := hr.len
      rw [s4] at he hr
      rw [s11] at he hr
      obtain ⟨g, o, rfl, hc⟩ := hr.at (by rw [s11]; omega)
      exact ⟨g, o, c, he, hc, hb⟩
  have BND : Hid (∀ v w, RS v sR1 w → Calls Try.prog 38 #[.agg #[v]] w fun e w' => e = .returned (.agg #[.int .i64 (-1), .int .i64 9, .int .i64 0, .int .i64 10]) ∧ Below w.heap.size w w') := Lib.hid fun v w h =>
    (P_BoundsR _ sR1 w h sR1_tok (by unfold maxLen sR1; simp)).mono fun e w' ⟨he, hb⟩ => by
      rw [s4, s13] at he
      exact ⟨he, hb⟩
  have TIL : Hid (∀ v w, RS v sR1 w → Calls Try.prog 22 #[.agg #[v], .agg #[.int .i64 (-1), .int .i64 1]] w fun e w' => e = .returned (Tile.v (tileL sR1 (-1) 1)) ∧ Below w.heap.size w w') := Lib.hid fun v w h =>
    P_Tile _ sR1 (-1) 1 w h (by unfold maxLen sR1; simp)
  have GT : Hid (∀ w, Calls Try.prog 51 #[Tile.v (tileL sR1 (-1) 1), .int .i64 7, .int .i64 1] w fun e w' => e = .returned (Px.v sP) ∧ Below w.heap.size w w') := Lib.hid fun w =>
    (P_Get (tileL sR1 (-1) 1) 7 1 w).mono fun e w' ⟨he, hb⟩ => by
      rw [s9] at he
      exact ⟨he, hb⟩
  have GR : Hid (∀ v w, RS v sR1 w → Calls Try.prog 20 #[.agg #[v], .int .i64 (-1), .int .i64 9] w fun e w' => e = .returned (Px.v sP) ∧ Below w.heap.size w w') := Lib.hid fun v w h =>
    (P_GetR _ sR1 (-1) 9 w h (by unfold maxLen sR1; simp) (by rfl) (by rfl)).mono fun e w' ⟨he, hb⟩ => by
      rw [s10] at he
      exact ⟨he, hb⟩
  have VA : Hid (∀ v w, RS v sR1 w → Calls Try.prog 16 #[.agg #[v]] w fun e w' => e = .returned (.bool true) ∧ Below w.heap.size w w') := Lib.hid fun v w h =>
    (P_Valid _ sR1 w h sR1_tok (by unfold maxLen sR1; simp)).mono fun e w' ⟨he, hb⟩ => by
      rw [s3] at he
      exact ⟨he, hb⟩
  have cR : ∀ w, (binOp .eql 64 (.agg #[.int .i64 (-1), .int .i64 9, .int .i64 0, .int .i64 10]) (.agg #[.int .i64 (-1), .int .i64 9, .int .i64 0, .int .i64 10])).run Try.prog w = .ok (.bool true) w := fun w => by
    have := eql_rc ⟨-1, 9, 0, 10⟩ ⟨-1, 9, 0, 10⟩ w
    rw [show decide ((⟨-1, 9, 0, 10⟩ : Rc) = ⟨-1, 9, 0, 10⟩) = true from by decide] at this
    exact this
  have cP : ∀ w, (binOp .eql 37 (Px.v sP) (Px.v sP)).run Try.prog w = .ok (.bool true) w := fun w => by rw [eql_px]; rfl
  go_enter Try.func14, Try.ntmps14
  go_wp2_with (first | (refine wpList_storeB (t := 68) rfl _ _ rfl _ rfl _ rfl m8 (by kernel_rfl) rfl (by simp [imgC, Value.oneCell']) ?_; have m8o := m8; clear m8; intro wn ht hcn hzn; replace rs1 := rs1.chg m8o (by simp [imgC]) hcn; have hsz := B.size; replace hzn := Nat.le_of_eq hzn.symm; replace B := Chg.below B hcn (by omega) B.size; (try replace p1 := p1.of_eq (hcn.block _ p1.lt (by omega))); (try replace r2 := r2.of_eq (hcn.block _ r2.lt (by omega))); (try replace r4 := r4.of_eq (hcn.block _ r4.lt (by omega))); (try replace r6 := r6.of_eq (hcn.block _ r6.lt (by omega))); (try replace rs1 := rs1.of_eq (hcn.block _ rs1.lt (by omega))); (try replace row := row.of_eq (hcn.block _ row.lt (by omega))); have m8 := ht; clear ht; simp only [Act.put, List.setIfInBounds_toArray, List.set_cons_zero, List.set_cons_succ]) | (have _ := row; refine wpList_allocBk (t := 68) rfl _ (run_alloc_Im _ _ rfl) ?_; intro b_m8 wn hle hge ht hbn hzn; have hsz := B.size; replace B := B.trans (hbn.mono (by omega)); have hln := Nat.lt_of_lt_of_eq (Nat.lt_succ_self _) hzn.symm; clear hzn; (try first | (have hlt := p1.lt; replace p1 := p1.of_eq (hbn.block _ (by omega))) | replace p1 := p1.below (hbn.mono hle)); (try first | (have hlt := r2.lt; replace r2 := r2.of_eq (hbn.block _ (by omega))) | replace r2 := r2.below (hbn.mono hle)); (try first | (have hlt := r4.lt; replace r4 := r4.of_eq (hbn.block _ (by omega))) | replace r4 := r4.below (hbn.mono hle)); (try first | (have hlt := r6.lt; replace r6 := r6.of_eq (hbn.block _ (by omega))) | replace r6 := r6.below (hbn.mono hle)); (try first | (have hlt := m8.lt; replace m8 := m8.of_eq (hbn.block _ (by omega))) | replace m8 := m8.below (hbn.mono hle)); (try first | (have hlt := rs1.lt; replace rs1 := rs1.of_eq (hbn.block _ (by omega))) | replace rs1 := rs1.below (hbn.mono hle)); (try first | (have hlt := row.lt; replace row := row.of_eq (hbn.block _ (by omega))) | replace row := row.below (hbn.mono hle)); have m8 := ht; clear ht; simp only [Act.put, List.setIfInBounds_toArray, List.set_cons_zero, List.set_cons_succ]) | (have _ := r6; go_at_call 33; refine (IMG.out _ _ rs1).mono ?_; rintro e wn ⟨gr, og, cg, rfl, row, hbn⟩; have hsz := B.size; have hzn := hbn.size; replace B := B.trans (hbn.mono B.size); (try first | replace p1 := p1.of_eq (hbn.block _ p1.lt) | replace p1 := p1.below hbn); (try first | replace r2 := r2.of_eq (hbn.block _ r2.lt) | replace r2 := r2.below hbn); (try first | replace r4 := r4.of_eq (hbn.block _ r4.lt) | replace r4 := r4.below hbn); (try first | replace r6 := r6.of_eq (hbn.block _ r6.lt) | replace r6 := r6.below hbn); (try first | replace m8 := m8.of_eq (hbn.block _ m8.lt) | replace m8 := m8.below hbn); (try first | replace rs1 := rs1.of_eq (hbn.block _ rs1.lt) | replace rs1 := rs1.below hbn); (try first | replace row := row.of_eq (hbn.block _ row.lt) | replace row := row.below hbn); have hgr := row.lt) | (refine wpList_storeB (t := 30) rfl _ _ rfl _ rfl _ rfl r6 (by kernel_rfl) rfl (by simp [Value.oneCell']) ?_; have r6o := r6; clear r6; intro wn ht hcn hzn; replace rs1 := rs1.chg r6o (by simp) hcn; have hsz := B.size; replace hzn := Nat.le_of_eq hzn.symm; replace B := Chg.below B hcn (by omega) B.size; (try replace p1 := p1.of_eq (hcn.block _ p1.lt (by omega))); (try replace r2 := r2.of_eq (hcn.block _ r2.lt (by omega))); (try replace r4 := r4.of_eq (hcn.block _ r4.lt (by omega))); (try replace m8 := m8.of_eq (hcn.block _ m8.lt (by omega))); (try replace rs1 := rs1.of_eq (hcn.block _ rs1.lt (by omega))); (try replace row := row.of_eq (hcn.block _ row.lt (by omega))); have r6 := ht; clear ht; simp only [Act.put, List.setIfInBounds_toArray, List.set_cons_zero, List.set_cons_succ]) | (have _ := r4; refine wpList_allocBk (t := 30) rfl _ (run_alloc_R _ _ rfl) ?_; intro b_r6 wn hle hge ht hbn hzn; have hsz := B.size; replace B := B.trans (hbn.mono (by omega)); have hln := Nat.lt_of_lt_of_eq (Nat.lt_succ_self _) hzn.symm; clear hzn; (try first | (have hlt := p1.lt; replace p1 := p1.of_eq (hbn.block _ (by omega))) | replace p1 := p1.below (hbn.mono hle)); (try first | (have hlt := r2.lt; replace r2 := r2.of_eq (hbn.block _ (by omega))) | replace r2 := r2.below (hbn.mono hle)); (try first | (have hlt := r4.lt; replace r4 := r4.of_eq (hbn.block _ (by omega))) | replace r4 := r4.below (hbn.mono hle)); (try first | (have hlt := r6.lt; replace r6 := r6.of_eq (hbn.block _ (by omega))) | replace r6 := r6.below (hbn.mono hle)); (try first | (have hlt := m8.lt; replace m8 := m8.of_eq (hbn.block _ (by omega))) | replace m8 := m8.below (hbn.mono hle)); (try first | (have hlt := rs1.lt; replace rs1 := rs1.of_eq (hbn.block _ (by omega))) | replace rs1 := rs1.below (hbn.mono hle)); (try first | (have hlt := row.lt; replace row := row.of_eq (hbn.block _ (by omega))) | replace row := row.below (hbn.mono hle)); have r6 := ht; clear ht; simp only [Act.put, List.setIfInBounds_toArray, List.set_cons_zero, List.set_cons_succ]) | (have _ := r4; go_at_call 26; refine (SET3.out _ _ rs1).mono ?_; rintro e wn ⟨a3, n3, c3, rfl, hbn⟩; have hsz := B.size; have hzn := hbn.size; replace B := B.trans (hbn.mono B.size); (try first | replace p1 := p1.of_eq (hbn.block _ p1.lt) | replace p1 := p1.below hbn); (try first | replace r2 := r2.of_eq (hbn.block _ r2.lt) | replace r2 := r2.below hbn); (try first | replace r4 := r4.of_eq (hbn.block _ r4.lt) | replace r4 := r4.below hbn); (try first | replace r6 := r6.of_eq (hbn.block _ r6.lt) | replace r6 := r6.below hbn); (try first | replace m8 := m8.of_eq (hbn.block _ m8.lt) | replace m8 := m8.below hbn); (try first | replace rs1 := rs1.of_eq (hbn.block _ rs1.lt) | replace rs1 := rs1.below hbn); (try first | replace row := row.of_eq (hbn.block _ row.lt) | replace row := row.below hbn)) | (refine wpList_storeB (t := 30) rfl _ _ rfl _ rfl _ rfl r4 (by kernel_rfl) rfl (by simp [Value.oneCell']) ?_; have r4o := r4; clear r4; intro wn ht hcn hzn; replace rs1 := rs1.chg r4o (by simp) hcn; have hsz := B.size; replace hzn := Nat.le_of_eq hzn.symm; replace B := Chg.below B hcn (by omega) B.size; (try replace p1 := p1.of_eq (hcn.block _ p1.lt (by omega))); (try replace r2 := r2.of_eq (hcn.block _ r2.lt (by omega))); (try replace r6 := r6.of_eq (hcn.block _ r6.lt (by omega))); (try replace m8 := m8.of_eq (hcn.block _ m8.lt (by omega))); (try replace rs1 := rs1.of_eq (hcn.block _ rs1.lt (by omega))); (try replace row := row.of_eq (hcn.block _ row.lt (by omega))); have r4 := ht; clear ht; simp only [Act.put, List.setIfInBounds_toArray, List.set_cons_zero, List.set_cons_succ]) | (have _ := r2; refine wpList_allocBk (t := 30) rfl _ (run_alloc_R _ _ rfl) ?_; intro b_r4 wn hle hge ht hbn hzn; have hsz := B.size; replace B := B.trans (hbn.mono (by omega)); have hln := Nat.lt_of_lt_of_eq (Nat.lt_succ_self _) hzn.symm; clear hzn; (try first | (have hlt := p1.lt; replace p1 := p1.of_eq (hbn.block _ (by omega))) | replace p1 := p1.below (hbn.mono hle)); (try first | (have hlt := r2.lt; replace r2 := r2.of_eq (hbn.block _ (by omega))) | replace r2 := r2.below (hbn.mono hle)); (try first | (have hlt := r4.lt; replace r4 := r4.of_eq (hbn.block _ (by omega))) | replace r4 := r4.below (hbn.mono hle)); (try first | (have hlt := r6.lt; replace r6 := r6.of_eq (hbn.block _ (by omega))) | replace r6 := r6.below (hbn.mono hle)); (try first | (have hlt := m8.lt; replace m8 := m8.of_eq (hbn.block _ (by omega))) | replace m8 := m8.below (hbn.mono hle)); (try first | (have hlt := rs1.lt; replace rs1 := rs1.of_eq (hbn.block _ (by omega))) | replace rs1 := rs1.below (hbn.mono hle)); (try first | (have hlt := row.lt; replace row := row.of_eq (hbn.block _ (by omega))) | replace row := row.below (hbn.mono hle)); have r4 := ht; clear ht; simp only [Act.put, List.setIfInBounds_toArray, List.set_cons_zero, List.set_cons_succ]) | (have _ := r2; go_at_call 26; refine (SET2.out _ _ rs1).mono ?_; rintro e wn ⟨a2, c2, rfl, hbn⟩; have hsz := B.size; have hzn := hbn.size; replace B := B.trans (hbn.mono B.size); (try first | replace p1 := p1.of_eq (hbn.block _ p1.lt) | replace p1 := p1.below hbn); (try first | replace r2 := r2.of_eq (hbn.block _ r2.lt) | replace r2 := r2.below hbn); (try first | replace r4 := r4.of_eq (hbn.block _ r4.lt) | replace r4 := r4.below hbn); (try first | replace r6 := r6.of_eq (hbn.block _ r6.lt) | replace r6 := r6.below hbn); (try first | replace m8 := m8.of_eq (hbn.block _ m8.lt) | replace m8 := m8.below hbn); (try first | replace rs1 := rs1.of_eq (hbn.block _ rs1.lt) | replace rs1 := rs1.below hbn); (try first | replace row := row.of_eq (hbn.block _ row.lt) | replace row := row.below hbn)) | (refine wpList_loadAny (t := 30) rfl _ rfl _ _ _ rfl (run_load_B r2 Try.isAgg30 (by kernel_rfl)) (by rfl) ?_; simp only [Act.put, List.setIfInBounds_toArray, List.set_cons_zero, List.set_cons_succ]) | (refine wpList_storeB (t := 30) rfl _ _ rfl _ rfl _ rfl r2 (by kernel_rfl) rfl (by simp [Value.oneCell']) ?_; have r2o := r2; clear r2; intro wn ht hcn hzn; replace rs1 := rs1.chg r2o (by simp) hcn; have hsz := B.size; replace hzn := Nat.le_of_eq hzn.symm; replace B := Chg.below B hcn (by omega) B.size; (try replace p1 := p1.of_eq (hcn.block _ p1.lt (by omega))); (try replace r4 := r4.of_eq (hcn.block _ r4.lt (by omega))); (try replace r6 := r6.of_eq (hcn.block _ r6.lt (by omega))); (try replace m8 := m8.of_eq (hcn.block _ m8.lt (by omega))); (try replace rs1 := rs1.of_eq (hcn.block _ rs1.lt (by omega))); (try replace row := row.of_eq (hcn.block _ row.lt (by omega))); have r2 := ht; clear ht; simp only [Act.put, List.setIfInBounds_toArray, List.set_cons_zero, List.set_cons_succ]) | (have _ := rs1; refine wpList_allocBk (t := 30) rfl _ (run_alloc_R _ _ rfl) ?_; intro b_r2 wn hle hge ht hbn hzn; have hsz := B.size; replace B := B.trans (hbn.mono (by omega)); have hln := Nat.lt_of_lt_of_eq (Nat.lt_succ_self _) hzn.symm; clear hzn; (try first | (have hlt := p1.lt; replace p1 := p1.of_eq (hbn.block _ (by omega))) | replace p1 := p1.below (hbn.mono hle)); (try first | (have hlt := r2.lt; replace r2 := r2.of_eq (hbn.block _ (by omega))) | replace r2 := r2.below (hbn.mono hle)); (try first | (have hlt := r4.lt; replace r4 := r4.of_eq (hbn.block _ (by omega))) | replace r4 := r4.below (hbn.mono hle)); (try first | (have hlt := r6.lt; replace r6 := r6.of_eq (hbn.block _ (by omega))) | replace r6 := r6.below (hbn.mono hle)); (try first | (have hlt := m8.lt; replace m8 := m8.of_eq (hbn.block _ (by omega))) | replace m8 := m8.below (hbn.mono hle)); (try first | (have hlt := rs1.lt; replace rs1 := rs1.of_eq (hbn.block _ (by omega))) | replace rs1 := rs1.below (hbn.mono hle)); (try first | (have hlt := row.lt; replace row := row.of_eq (hbn.block _ (by omega))) | replace row := row.below (hbn.mono hle)); have r2 := ht; clear ht; simp only [Act.put, List.setIfInBounds_toArray, List.set_cons_zero, List.set_cons_succ]) | (go_at_call 26; refine (SET1.out _).mono ?_; rintro e wn ⟨a1, c1, rfl, rs1, hbn⟩; have hsz := B.size; have hzn := hbn.size; replace B := B.trans (hbn.mono B.size); (try first | replace p1 := p1.of_eq (hbn.block _ p1.lt) | replace p1 := p1.below hbn); (try first | replace r2 := r2.of_eq (hbn.block _ r2.lt) | replace r2 := r2.below hbn); (try first | replace r4 := r4.of_eq (hbn.block _ r4.lt) | replace r4 := r4.below hbn); (try first | replace r6 := r6.of_eq (hbn.block _ r6.lt) | replace r6 := r6.below hbn); (try first | replace m8 := m8.of_eq (hbn.block _ m8.lt) | replace m8 := m8.below hbn); (try first | replace rs1 := rs1.of_eq (hbn.block _ rs1.lt) | replace rs1 := rs1.below hbn); (try first | replace row := row.of_eq (hbn.block _ row.lt) | replace row := row.below hbn)) | (refine wpList_loadPx rfl _ rfl _ rfl p1 ?_; simp only [Act.put, List.setIfInBounds_toArray, List.set_cons_zero, List.set_cons_succ]) | (refine wpList_storePx rfl _ _ rfl _ rfl (sP) rfl p1 ?_; clear p1; intro wn ht hcn hzn; have hsz := B.size; replace hzn := Nat.le_of_eq hzn.symm; replace B := Chg.below B hcn (by omega) B.size; (try replace r2 := r2.of_eq (hcn.block _ r2.lt (by omega))); (try replace r4 := r4.of_eq (hcn.block _ r4.lt (by omega))); (try replace r6 := r6.of_eq (hcn.block _ r6.lt (by omega))); (try replace m8 := m8.of_eq (hcn.block _ m8.lt (by omega))); (try replace rs1 := rs1.of_eq (hcn.block _ rs1.lt (by omega))); (try replace row := row.of_eq (hcn.block _ row.lt (by omega))); have p1 := ht; clear ht; simp only [Act.put, List.setIfInBounds_toArray, List.set_cons_zero, List.set_cons_succ]) | (refine wpList_allocPx' rfl rfl ?_; intro b_p1 wn hle hge ht hbn hzn; have hsz := B.size; replace B := B.trans (hbn.mono (by omega)); have hln := Nat.lt_of_lt_of_eq (Nat.lt_succ_self _) hzn.symm; clear hzn; (try first | (have hlt := p1.lt; replace p1 := p1.of_eq (hbn.block _ (by omega))) | replace p1 := p1.below (hbn.mono hle)); (try first | (have hlt := r2.lt; replace r2 := r2.of_eq (hbn.block _ (by omega))) | replace r2 := r2.below (hbn.mono hle)); (try first | (have hlt := r4.lt; replace r4 := r4.of_eq (hbn.block _ (by omega))) | replace r4 := r4.below (hbn.mono hle)); (try first | (have hlt := r6.lt; replace r6 := r6.of_eq (hbn.block _ (by omega))) | replace r6 := r6.below (hbn.mono hle)); (try first | (have hlt := m8.lt; replace m8 := m8.of_eq (hbn.block _ (by omega))) | replace m8 := m8.below (hbn.mono hle)); (try first | (have hlt := rs1.lt; replace rs1 := rs1.of_eq (hbn.block _ (by omega))) | replace rs1 := rs1.below (hbn.mono hle)); (try first | (have hlt := row.lt; replace row := row.of_eq (hbn.block _ (by omega))) | replace row := row.below (hbn.mono hle)); have p1 := ht; clear ht; simp only [Act.put, List.setIfInBounds_toArray, List.set_cons_zero, List.set_cons_succ]) | fail)
  simp only [List.append_eq, List.cons_append, List.nil_append]
  refine wp_region_ov (by kernel_rfl) (by kernel_rfl) ?_
  repeat (first | go_big_quiet_skip | (go_big_quiet_want; first | (refine quiet_loadAny (t := 37) rfl _ _ _ rfl (fun w hw => rce_px (ov_rce row w hw) (i := 1) s12) (by first | rfl | omega) ?_; simp only [Act.put, List.setIfInBounds_toArray, List.set_cons_zero, List.set_cons_succ]; go_big_quiet_on) | (refine quiet_loadAny (t := 66) rfl _ _ _ rfl (fun w hw => run_load_slp (imgC_u (ov_B m8 w hw))) (by rfl) ?_; simp only [Act.put, List.setIfInBounds_toArray, List.set_cons_zero, List.set_cons_succ]; go_big_quiet_on) | (refine quiet_loadPx rfl _ rfl (ov_px p1) ?_; simp only [Act.put, List.setIfInBounds_toArray, List.set_cons_zero, List.set_cons_succ]; go_big_quiet_on) | (refine quiet_loadAny (t := 28) rfl _ _ _ rfl (fun w hw => run_load_sl (ov_B r4 w hw).cell0) (by rfl) ?_; simp only [Act.put, List.setIfInBounds_toArray, List.set_cons_zero, List.set_cons_succ]; go_big_quiet_on) | (refine quiet_loadAny (t := 28) rfl _ _ _ rfl (fun w hw => run_load_sl (ov_B r2 w hw).cell0) (by rfl) ?_; simp only [Act.put, List.setIfInBounds_toArray, List.set_cons_zero, List.set_cons_succ]; go_big_quiet_on) | (refine quiet_loadAny (t := 30) rfl _ _ _ rfl (fun w hw => run_load_B (ov_B r2 w hw) Try.isAgg30 (by kernel_rfl)) (by rfl) ?_; simp only [Act.put, List.setIfInBounds_toArray, List.set_cons_zero, List.set_cons_succ]; go_big_quiet_on) | (go_big_quiet_op; first | go_big_quiet_on | go_big_quiet_call ((first | (go_at_call 16; exact calls_ov (VA.out _ _ (ov_rs rs1 _ ⟨_, rfl⟩))) | (go_at_call 20; exact calls_ov (GR.out _ _ (ov_rs rs1 _ ⟨_, rfl⟩))) | (go_at_call 51; exact calls_ov (GT.out _)) | (go_at_call 22; exact calls_ov (TIL.out _ _ (ov_rs rs1 _ ⟨_, rfl⟩))) | (go_at_call 38; exact calls_ov (BND.out _ _ (ov_rs rs1 _ ⟨_, rfl⟩))))))))
  refine wpQuiet_nil ?_
  intro wn hbn
  have hsz := B.size
  have hzn := hbn.size
  replace B := B.trans (hbn.mono B.size)
  try first | replace p1 := p1.of_eq (hbn.block _ p1.lt) | replace p1 := p1.below hbn
  try first | replace r2 := r2.of_eq (hbn.block _ r2.lt) | replace r2 := r2.below hbn
  try first | replace r4 := r4.of_eq (hbn.block _ r4.lt) | replace r4 := r4.below hbn
  try first | replace r6 := r6.of_eq (hbn.block _ r6.lt) | replace r6 := r6.below hbn
  try first | replace m8 := m8.of_eq (hbn.block _ m8.lt) | replace m8 := m8.below hbn
  try first | replace rs1 := rs1.of_eq (hbn.block _ rs1.lt) | replace rs1 := rs1.below hbn
  try first | replace row := row.of_eq (hbn.block _ row.lt) | replace row := row.below hbn
  go_wp2
  go_ret
  exact ⟨rfl, B⟩
end Go.Proofs.Ytppccnjckiedlaa
/- Contracts of gouacheref04.Made, gouacheref07.Made. -/
namespace Go.Proofs.Ytppccnjckiedlaa
open Go.RowKit Go.Shelf Pl
set_option linter.unusedVariables false
set_option linter.unusedSimpArgs false
set_option maxRecDepth 20000

section
variable {ops : Array Oper} {rest : List Oper} {o : Oper} {a : Act} {w : World} {Q : Exit → Act → World → Prop}
theorem wpList_storePa (hg : o.guard = none) (x y : Operand) (ho : o.op = .store 5 x y) (b : Nat) (hx : a.eval x = .pointer (some ⟨b, 3, none⟩)) (n : Int) (hy : a.eval y = .int .u8 n) {p : Px} (ht : PixAt w b p)
    (h : ∀ w', PixAt w' b ⟨p.r, p.g, p.b, n⟩ → Chg b w w' → w'.heap.size = w.heap.size → wpList Try.prog ops Q rest (a.put o.dst undef) w') : wpList Try.prog ops Q (o :: rest) a w := by
  refine wpList_storeAny hg x y ho (w.setCell ⟨b, 3, none⟩ (.int .u8 n)) ?_ (h _ ?_ ((Chg.refl b w).setCell _) (by simp only [World.size_setCell]))
  · rw [hx, hy]
    obtain ⟨c0, c1, c2, c3⟩ := ht.cells
    have hf := ht
    unfold PixAt at hf
    have hfr := AtB.frozen (t := 37) hf 3
    simp [go_sem, c3, hfr]
  · have := heap_setCell_same w b 3 _ _ (.int .u8 n) ht
    exact this
end
def madeA (u : Int) : Int := if u % 5 = 1 then 255 else if u % 5 = 3 then 0 else u / 16777216
def madeP (x : Int) : Px := ⟨x % 256, x % 4294967296 / 256 % 256, x % 4294967296 / 65536 % 256, madeA (x % 4294967296)⟩
theorem madeP_ok (x : Int) : (madeP x).ok := by
  unfold madeP Px.ok madeA
  refine ⟨⟨?_, ?_⟩, ⟨?_, ?_⟩, ⟨?_, ?_⟩, ?_, ?_⟩ <;> simp only <;> (try split) <;> (try split) <;> omega
set_option maxHeartbeats 1000000 in
theorem R_Made4 (x : Int) (w : World) : Calls Try.prog 24 #[.int .i64 x] w fun e w' => e = .returned (Px.v (madeP x)) ∧ Below w.heap.size w w' := by
  have B := Below.refl w.heap.size w
  by_cases h1 : x % 4294967296 % 5 = 1
  · have e1 : madeP x = ⟨x % 256, x % 4294967296 / 256 % 256, x % 4294967296 / 65536 % 256, 255⟩ := by unfold madeP madeA; rw [if_pos h1]
    have d1 : (x % 4294967296 % 5 == 1) = true := by simp; omega
    have d3 : (x % 4294967296 % 5 == 3) = false := by simp; omega
    rw [e1]
    clear e1 h1
    go_enter Try.func24, Try.ntmps24
    go_wp2_with (first | (refine wpList_storePx rfl _ _ rfl _ rfl (⟨_, _, _, _⟩) rfl q2 ?_; clear q2; intro wn ht hcn hzn; have hsz := B.size; replace hzn := Nat.le_of_eq hzn.symm; replace B := Chg.below B hcn (by omega) B.size; (try replace q4 := q4.of_eq (hcn.block _ q4.lt (by omega))); have q2 := ht; clear ht; simp only [Act.put, List.setIfInBounds_toArray, List.set_cons_zero, List.set_cons_succ]) | (refine wpList_storePa rfl _ _ rfl _ rfl _ rfl q4 ?_; clear q4; intro wn ht hcn hzn; have hsz := B.size; replace hzn := Nat.le_of_eq hzn.symm; replace B := Chg.below B hcn (by omega) B.size; (try replace q2 := q2.of_eq (hcn.block _ q2.lt (by omega))); have q4 := ht; clear ht; simp only [Act.put, List.setIfInBounds_toArray, List.set_cons_zero, List.set_cons_succ]) | (refine wpList_loadPx rfl _ rfl _ rfl q4 ?_; simp only [Act.put, List.setIfInBounds_toArray, List.set_cons_zero, List.set_cons_succ]) | (refine wpList_storePx rfl _ _ rfl _ rfl (⟨_, _, _, _⟩) rfl q4 ?_; clear q4; intro wn ht hcn hzn; have hsz := B.size; replace hzn := Nat.le_of_eq hzn.symm; replace B := Chg.below B hcn (by omega) B.size; (try replace q2 := q2.of_eq (hcn.block _ q2.lt (by omega))); have q4 := ht; clear ht; simp only [Act.put, List.setIfInBounds_toArray, List.set_cons_zero, List.set_cons_succ]) | (have _ := q2; refine wpList_allocPx' rfl rfl ?_; intro b_q4 wn hle hge ht hbn hzn; have hsz := B.size; replace B := B.trans (hbn.mono (by omega)); have hln := Nat.lt_of_lt_of_eq (Nat.lt_succ_self _) hzn.symm; clear hzn; (try first | (have hlt := q2.lt; replace q2 := q2.of_eq (hbn.block _ (by omega))) | replace q2 := q2.below (hbn.mono hle)); (try first | (have hlt := q4.lt; replace q4 := q4.of_eq (hbn.block _ (by omega))) | replace q4 := q4.below (hbn.mono hle)); have q4 := ht; clear ht; simp only [Act.put, List.setIfInBounds_toArray, List.set_cons_zero, List.set_cons_succ]) | (refine wpList_allocPx' rfl rfl ?_; intro b_q2 wn hle hge ht hbn hzn; have hsz := B.size; replace B := B.trans (hbn.mono (by omega)); have hln := Nat.lt_of_lt_of_eq (Nat.lt_succ_self _) hzn.symm; clear hzn; (try first | (have hlt := q2.lt; replace q2 := q2.of_eq (hbn.block _ (by omega))) | replace q2 := q2.below (hbn.mono hle)); (try first | (have hlt := q4.lt; replace q4 := q4.of_eq (hbn.block _ (by omega))) | replace q4 := q4.below (hbn.mono hle)); have q2 := ht; clear ht; simp only [Act.put, List.setIfInBounds_toArray, List.set_cons_zero, List.set_cons_succ]) | fail)
    refine bodyPost_ret (results_px rfl _ _ (b_q2) rfl q2) rfl ?_
    exact ⟨rfl, B⟩
  · have d1 : (x % 4294967296 % 5 == 1) = false := by simp; omega
    by_cases h3 : x % 4294967296 % 5 = 3
    · have e1 : madeP x = ⟨x % 256, x % 4294967296 / 256 % 256, x % 4294967296 / 65536 % 256, 0⟩ := by unfold madeP madeA; rw [if_neg h1, if_pos h3]
      have d3 : (x % 4294967296 % 5 == 3) = true := by simp; omega
      rw [e1]
      clear e1 h1 h3
      go_enter Try.func24, Try.ntmps24
      go_wp2_with (first | (refine wpList_storePx rfl _ _ rfl _ rfl (⟨_, _, _, _⟩) rfl q2 ?_; clear q2; intro wn ht hcn hzn; have hsz := B.size; replace hzn := Nat.le_of_eq hzn.symm; replace B := Chg.below B hcn (by omega) B.size; (try replace q4 := q4.of_eq (hcn.block _ q4.lt (by omega))); have q2 := ht; clear ht; simp only [Act.put, List.setIfInBounds_toArray, List.set_cons_zero, List.set_cons_succ]) | (refine wpList_storePa rfl _ _ rfl _ rfl _ rfl q4 ?_; clear q4; intro wn ht hcn hzn; have hsz := B.size; replace hzn := Nat.le_of_eq hzn.symm; replace B := Chg.below B hcn (by omega) B.size; (try replace q2 := q2.of_eq (hcn.block _ q2.lt (by omega))); have q4 := ht; clear ht; simp only [Act.put, List.setIfInBounds_toArray, List.set_cons_zero, List.set_cons_succ]) | (refine wpList_loadPx rfl _ rfl _ rfl q4 ?_; simp only [Act.put, List.setIfInBounds_toArray, List.set_cons_zero, List.set_cons_succ]) | (refine wpList_storePx rfl _ _ rfl _ rfl (⟨_, _, _, _⟩) rfl q4 ?_; clear q4; intro wn ht hcn hzn; have hsz := B.size; replace hzn := Nat.le_of_eq hzn.symm; replace B := Chg.below B hcn (by omega) B.size; (try replace q2 := q2.of_eq (hcn.block _ q2.lt (by omega))); have q4 := ht; clear ht; simp only [Act.put, List.setIfInBounds_toArray, List.set_cons_zero, List.set_cons_succ]) | (have _ := q2; refine wpList_allocPx' rfl rfl ?_; intro b_q4 wn hle hge ht hbn hzn; have hsz := B.size; replace B := B.trans (hbn.mono (by omega)); have hln := Nat.lt_of_lt_of_eq (Nat.lt_succ_self _) hzn.symm; clear hzn; (try first | (have hlt := q2.lt; replace q2 := q2.of_eq (hbn.block _ (by omega))) | replace q2 := q2.below (hbn.mono hle)); (try first | (have hlt := q4.lt; replace q4 := q4.of_eq (hbn.block _ (by omega))) | replace q4 := q4.below (hbn.mono hle)); have q4 := ht; clear ht; simp only [Act.put, List.setIfInBounds_toArray, List.set_cons_zero, List.set_cons_succ]) | (refine wpList_allocPx' rfl rfl ?_; intro b_q2 wn hle hge ht hbn hzn; have hsz := B.size; replace B := B.trans (hbn.mono (by omega)); have hln := Nat.lt_of_lt_of_eq (Nat.lt_succ_self _) hzn.symm; clear hzn; (try first | (have hlt := q2.lt; replace q2 := q2.of_eq (hbn.block _ (by omega))) | replace q2 := q2.below (hbn.mono hle)); (try first | (have hlt := q4.lt; replace q4 := q4.of_eq (hbn.block _ (by omega))) | replace q4 := q4.below (hbn.mono hle)); have q2 := ht; clear ht; simp only [Act.put, List.setIfInBounds_toArray, List.set_cons_zero, List.set_cons_succ]) | fail)
      refine bodyPost_ret (results_px rfl _ _ (b_q2) rfl q2) rfl ?_
      exact ⟨rfl, B⟩
    · have e1 : madeP x = ⟨x % 256, x % 4294967296 / 256 % 256, x % 4294967296 / 65536 % 256, x % 4294967296 / 16777216⟩ := by unfold madeP madeA; rw [if_neg h1, if_neg h3]
      have d3 : (x % 4294967296 % 5 == 3) = false := by simp; omega
      rw [e1]
      clear e1 h1 h3
      go_enter Try.func24, Try.ntmps24
      go_wp2_with (first | (refine wpList_storePx rfl _ _ rfl _ rfl (⟨_, _, _, _⟩) rfl q2 ?_; clear q2; intro wn ht hcn hzn; have hsz := B.size; replace hzn := Nat.le_of_eq hzn.symm; replace B := Chg.below B hcn (by omega) B.size; (try replace q4 := q4.of_eq (hcn.block _ q4.lt (by omega))); have q2 := ht; clear ht; simp only [Act.put, List.setIfInBounds_toArray, List.set_cons_zero, List.set_cons_succ]) | (refine wpList_storePa rfl _ _ rfl _ rfl _ rfl q4 ?_; clear q4; intro wn ht hcn hzn; have hsz := B.size; replace hzn := Nat.le_of_eq hzn.symm; replace B := Chg.below B hcn (by omega) B.size; (try replace q2 := q2.of_eq (hcn.block _ q2.lt (by omega))); have q4 := ht; clear ht; simp only [Act.put, List.setIfInBounds_toArray, List.set_cons_zero, List.set_cons_succ]) | (refine wpList_loadPx rfl _ rfl _ rfl q4 ?_; simp only [Act.put, List.setIfInBounds_toArray, List.set_cons_zero, List.set_cons_succ]) | (refine wpList_storePx rfl _ _ rfl _ rfl (⟨_, _, _, _⟩) rfl q4 ?_; clear q4; intro wn ht hcn hzn; have hsz := B.size; replace hzn := Nat.le_of_eq hzn.symm; replace B := Chg.below B hcn (by omega) B.size; (try replace q2 := q2.of_eq (hcn.block _ q2.lt (by omega))); have q4 := ht; clear ht; simp only [Act.put, List.setIfInBounds_toArray, List.set_cons_zero, List.set_cons_succ]) | (have _ := q2; refine wpList_allocPx' rfl rfl ?_; intro b_q4 wn hle hge ht hbn hzn; have hsz := B.size; replace B := B.trans (hbn.mono (by omega)); have hln := Nat.lt_of_lt_of_eq (Nat.lt_succ_self _) hzn.symm; clear hzn; (try first | (have hlt := q2.lt; replace q2 := q2.of_eq (hbn.block _ (by omega))) | replace q2 := q2.below (hbn.mono hle)); (try first | (have hlt := q4.lt; replace q4 := q4.of_eq (hbn.block _ (by omega))) | replace q4 := q4.below (hbn.mono hle)); have q4 := ht; clear ht; simp only [Act.put, List.setIfInBounds_toArray, List.set_cons_zero, List.set_cons_succ]) | (refine wpList_allocPx' rfl rfl ?_; intro b_q2 wn hle hge ht hbn hzn; have hsz := B.size; replace B := B.trans (hbn.mono (by omega)); have hln := Nat.lt_of_lt_of_eq (Nat.lt_succ_self _) hzn.symm; clear hzn; (try first | (have hlt := q2.lt; replace q2 := q2.of_eq (hbn.block _ (by omega))) | replace q2 := q2.below (hbn.mono hle)); (try first | (have hlt := q4.lt; replace q4 := q4.of_eq (hbn.block _ (by omega))) | replace q4 := q4.below (hbn.mono hle)); have q2 := ht; clear ht; simp only [Act.put, List.setIfInBounds_toArray, List.set_cons_zero, List.set_cons_succ]) | fail)
      refine bodyPost_ret (results_px rfl _ _ (b_q2) rfl q2) rfl ?_
      exact ⟨rfl, B⟩
end Go.Proofs.Ytppccnjckiedlaa
/- Slices of integers; contracts of gouacheref07.Made, pick. -/
namespace Go.Proofs.Ytppccnjckiedlaa
open Go.RowKit Go.Shelf Pl
set_option linter.unusedVariables false
set_option linter.unusedSimpArgs false
set_option maxRecDepth 20000

def inE : Elt Int 1 3 22 where
  enc := fun x => #[.int .i64 x]
  bytes := 8
  zero := 0
  size := fun _ => rfl
  one := fun x u hu => by
    have : u ∈ [Value.int .i64 x] := hu
    rw [List.mem_singleton.1 this]; rfl
  pos := by omega
  small := by omega
  und := Try.underlying22
  info := by kernel_rfl
  zer := by kernel_rfl
theorem rci_int {g o : Nat} {L : List Int} {w : World} (h : RCellsE inE g o L w) {i : Nat} {x : Int} (hi : L[i]? = some x) : w.cell? ⟨g, o + i, none⟩ = some (.int .i64 x) := by
  have := h.2 i x hi 0 (by omega)
  rw [Nat.mul_one, Nat.add_zero] at this
  exact this
def getI (L : List Int) (i : Nat) : Int := L.getD i 0
theorem getD_some {L : List Int} {i : Nat} (h : i < L.length) : L[i]? = some (getI L i) := by
  unfold getI
  rw [List.getD_eq_getElem?_getD, List.getElem?_eq_getElem h]; rfl
def madeS (L : List Int) (i : Nat) : Int := getI L (i * L.length / 64)
def madeQ (L : List Int) (i : Nat) : Px := if madeS L i % 4 = 2 then cleanP (madeP (madeS L i + 7919 * i)) else cleanP (madeP (madeS L i))
def madeT (L : List Int) : Nat → Px := if L.length = 0 then zT else madeQ L
theorem madeQ_ok (L : List Int) (i : Nat) : (madeQ L i).ok := by
  unfold madeQ
  split
  · exact cleanP_ok (madeP_ok _)
  · exact cleanP_ok (madeP_ok _)
theorem madeT_tok (L : List Int) : Tok (madeT L) := fun i hi => by
  unfold madeT
  split
  · exact Px.zero_ok
  · exact madeQ_ok L i
theorem madeP_wrap (x : Int) : madeP (wrap64 x) = madeP x := by
  have h : wrap64 x % 4294967296 = x % 4294967296 := by unfold wrap64; omega
  have h' : wrap64 x % 256 = x % 256 := by omega
  unfold madeP
  rw [h, h']
theorem upd_upd (f : Nat → Px) (i : Nat) (p q : Px) : upd (upd f i p) i q = upd f i q := by
  funext j; unfold upd; split <;> rfl
theorem TileAt.eqv {w : World} {b : Nat} {f g : Nat → Px} (h : TileAt w b f) (e : f = g) : TileAt w b g := e ▸ h
set_option maxHeartbeats 400000 in
theorem R_Made7 (v : Value) (L : List Int) (w : World) (h : RSE inE v L w) (hn : L.length ≤ 17592186044416) : Calls Try.prog 25 #[v] w fun e w' => e = .returned (Tile.v (madeT L)) ∧ Below w.heap.size w w' := by
  have B := Below.refl w.heap.size w
  obtain ⟨a, c, rfl, hc⟩ := h.len
  by_cases h0 : L.length = 0
  · have e1 : madeT L = zT := by unfold madeT; rw [if_pos h0]
    rw [e1]
    go_enter Try.func25, Try.ntmps25
    go_wp2_with (first | (refine wpList_buildT rfl rfl ?_; simp only [Act.put, List.setIfInBounds_toArray, List.set_cons_zero, List.set_cons_succ]) | (refine wpList_storeT rfl _ _ rfl _ rfl _ rfl t3 ?_; clear t3; intro wn ht hcn hzn; have hsz := B.size; replace hzn := Nat.le_of_eq hzn.symm; replace B := Chg.below B hcn (by omega) B.size; (try replace t2 := t2.of_eq (hcn.block _ t2.lt (by omega))); have t3 := ht; clear ht; simp only [Act.put, List.setIfInBounds_toArray, List.set_cons_zero, List.set_cons_succ]) | (have _ := t2; refine wpList_allocT' rfl rfl ?_; intro b_t3 wn hle hge ht hbn hzn; have hsz := B.size; replace B := B.trans (hbn.mono (by omega)); have hln := Nat.lt_of_lt_of_eq (Nat.lt_succ_self _) hzn.symm; clear hzn; (try first | (have hlt := t2.lt; replace t2 := t2.of_eq (hbn.block _ (by omega))) | replace t2 := t2.below (hbn.mono hle)); (try first | (have hlt := t3.lt; replace t3 := t3.of_eq (hbn.block _ (by omega))) | replace t3 := t3.below (hbn.mono hle)); have t3 := ht; clear ht; simp only [Act.put, List.setIfInBounds_toArray, List.set_cons_zero, List.set_cons_succ]) | (refine wpList_allocT' rfl rfl ?_; intro b_t2 wn hle hge ht hbn hzn; have hsz := B.size; replace B := B.trans (hbn.mono (by omega)); have hln := Nat.lt_of_lt_of_eq (Nat.lt_succ_self _) hzn.symm; clear hzn; (try first | (have hlt := t2.lt; replace t2 := t2.of_eq (hbn.block _ (by omega))) | replace t2 := t2.below (hbn.mono hle)); (try first | (have hlt := t3.lt; replace t3 := t3.of_eq (hbn.block _ (by omega))) | replace t3 := t3.below (hbn.mono hle)); have t2 := ht; clear ht; simp only [Act.put, List.setIfInBounds_toArray, List.set_cons_zero, List.set_cons_succ]) | fail)
    go_loopw [4] (fun i wr => i = .int .i64 0 ∧ Below w.heap.size w wr ∧ TileAt wr b_t2 zeroT ∧ TileAt wr b_t3 zeroT) (fun i _ => 0)
    case atStart => exact ⟨rfl, B, t2, t3⟩
    case round =>
      clear B t2 t3
      obtain ⟨rfl, B, t2, t3⟩ := hrel
      go_wp2_with (first | (refine wpList_storeT rfl _ _ rfl _ rfl _ rfl t2 ?_; clear t2; intro wn ht hcn hzn; have hsz := B.size; replace hzn := Nat.le_of_eq hzn.symm; replace B := Chg.below B hcn (by omega) B.size; (try replace t3 := t3.of_eq (hcn.block _ t3.lt (by omega))); have t2 := ht; clear ht; simp only [Act.put, List.setIfInBounds_toArray, List.set_cons_zero, List.set_cons_succ]) | (refine wpList_loadT rfl _ rfl _ rfl t3 ?_; simp only [Act.put, List.setIfInBounds_toArray, List.set_cons_zero, List.set_cons_succ]) | fail)
      refine bodyPost_ret (results_tile rfl _ _ (b_t2) rfl t2) rfl ?_
      exact ⟨rfl, B⟩
  · have e1 : madeT L = madeQ L := by unfold madeT; rw [if_neg h0]
    have HM := Lib.hid e1
    clear e1
    obtain ⟨g, o, rfl, rcw⟩ := h.at (by omega)
    clear h
    have hg := rcw.lt
    go_enter Try.func25, Try.ntmps25
    go_wp2_with (first | (refine wpList_buildT rfl rfl ?_; simp only [Act.put, List.setIfInBounds_toArray, List.set_cons_zero, List.set_cons_succ]) | (refine wpList_storeT rfl _ _ rfl _ rfl _ rfl t3 ?_; clear t3; intro wn ht hcn hzn; have hsz := B.size; replace hzn := Nat.le_of_eq hzn.symm; replace B := Chg.below B hcn (by omega) B.size; (try replace t2 := t2.of_eq (hcn.block _ t2.lt (by omega))); have t3 := ht; clear ht; simp only [Act.put, List.setIfInBounds_toArray, List.set_cons_zero, List.set_cons_succ]) | (have _ := t2; refine wpList_allocT' rfl rfl ?_; intro b_t3 wn hle hge ht hbn hzn; have hsz := B.size; replace B := B.trans (hbn.mono (by omega)); have hln := Nat.lt_of_lt_of_eq (Nat.lt_succ_self _) hzn.symm; clear hzn; (try first | (have hlt := t2.lt; replace t2 := t2.of_eq (hbn.block _ (by omega))) | replace t2 := t2.below (hbn.mono hle)); (try first | (have hlt := t3.lt; replace t3 := t3.of_eq (hbn.block _ (by omega))) | replace t3 := t3.below (hbn.mono hle)); have t3 := ht; clear ht; simp only [Act.put, List.setIfInBounds_toArray, List.set_cons_zero, List.set_cons_succ]) | (refine wpList_allocT' rfl rfl ?_; intro b_t2 wn hle hge ht hbn hzn; have hsz := B.size; replace B := B.trans (hbn.mono (by omega)); have hln := Nat.lt_of_lt_of_eq (Nat.lt_succ_self _) hzn.symm; clear hzn; (try first | (have hlt := t2.lt; replace t2 := t2.of_eq (hbn.block _ (by omega))) | replace t2 := t2.below (hbn.mono hle)); (try first | (have hlt := t3.lt; replace t3 := t3.of_eq (hbn.block _ (by omega))) | replace t3 := t3.below (hbn.mono hle)); have t2 := ht; clear ht; simp only [Act.put, List.setIfInBounds_toArray, List.set_cons_zero, List.set_cons_succ]) | fail)
    go_loopw [4, 5] (fun i _ wr => ∃ k : Nat, k ≤ 64 ∧ i = .int .i64 k ∧ Below w.heap.size w wr ∧ TileAt wr b_t2 zeroT ∧ TileAt wr b_t3 (stepT zeroT (madeQ L) k)) (fun i _ _ => (64 - intOf i).toNat)
    case atStart => exact ⟨0, by omega, rfl, B, t2, by rw [stepT_zero]; exact t3⟩
    case round =>
      clear B t2 t3
      obtain ⟨k, hk, rfl, B, t2, t3⟩ := hrel
      by_cases hk64 : k < 64
      · have rc := rcw.of_eq (B.block _ rcw.lt)
        have hlt2 : b_t3 < wr.heap.size := t3.lt
        have hml : k * L.length ≤ 63 * L.length := Nat.mul_le_mul_right _ (by omega)
        have hix : k * L.length / 64 < L.length := by omega
        have hm1 : (k : Int) * (L.length : Int) ≤ 63 * (L.length : Int) := by exact_mod_cast hml
        have hm0 : 0 ≤ (k : Int) * (L.length : Int) := Int.mul_nonneg (by omega) (by omega)
        have hms : madeS L k = getI L (k * L.length / 64) := rfl
        have b3 := bits_and3 (getI L (k * L.length / 64))
        by_cases hq : madeS L k % 4 = 2
        · have E := Lib.hid (show madeQ L k = cleanP (madeP (getI L (k * L.length / 64) + 7919 * k)) by unfold madeQ; rw [if_pos hq, hms])
          have d1 : (getI L (k * L.length / 64) % 4 == 2) = true := by rw [hms] at hq; simpa using hq
          go_wp2_with (first | (refine wpList_loadAny (t := 3) rfl _ rfl _ _ _ rfl (run_load_int (rci_int rc (getD_some hix))) (by first | with_reducible rfl | omega) ?_; simp only [Act.put, List.setIfInBounds_toArray, List.set_cons_zero, List.set_cons_succ]) | (refine wpList_storeTp rfl _ _ rfl _ _ rfl _ rfl t3 k (by omega) (by first | rfl | omega) ?_; clear t3; intro wn ht hcn hzn; have hsz := B.size; replace hzn := Nat.le_of_eq hzn.symm; replace B := Chg.below B hcn (by omega) B.size; (try replace t2 := t2.of_eq (hcn.block _ t2.lt (by omega))); have t3 := ht; clear ht; simp only [Act.put, List.setIfInBounds_toArray, List.set_cons_zero, List.set_cons_succ]) | (go_at_call 31; refine (R_Clean _ _ (madeP_ok _)).mono ?_; rintro e wn ⟨rfl, hbn⟩; have hsz := B.size; have hzn := hbn.size; replace B := B.trans (hbn.mono B.size); (try first | replace t2 := t2.of_eq (hbn.block _ t2.lt) | replace t2 := t2.below hbn); (try first | replace t3 := t3.of_eq (hbn.block _ t3.lt) | replace t3 := t3.below hbn)) | (go_at_call 24; refine (R_Made4 _ _).mono ?_; rintro e wn ⟨rfl, hbn⟩; have hsz := B.size; have hzn := hbn.size; replace B := B.trans (hbn.mono B.size); (try first | replace t2 := t2.of_eq (hbn.block _ t2.lt) | replace t2 := t2.below hbn); (try first | replace t3 := t3.of_eq (hbn.block _ t3.lt) | replace t3 := t3.below hbn)) | fail)
          go_roundw
          case rel => exact ⟨k + 1, by omega, by go_num, B, t2, by rw [upd_upd, madeP_wrap] at t3; rw [← stepT_next, E.out]; exact t3⟩
          case measure => simp [intOf]; omega
        · have E := Lib.hid (show madeQ L k = cleanP (madeP (getI L (k * L.length / 64))) by unfold madeQ; rw [if_neg hq, hms])
          have d1 : (getI L (k * L.length / 64) % 4 == 2) = false := by rw [hms] at hq; simpa using hq
          go_wp2_with (first | (refine wpList_loadAny (t := 3) rfl _ rfl _ _ _ rfl (run_load_int (rci_int rc (getD_some hix))) (by first | with_reducible rfl | omega) ?_; simp only [Act.put, List.setIfInBounds_toArray, List.set_cons_zero, List.set_cons_succ]) | (refine wpList_storeTp rfl _ _ rfl _ _ rfl _ rfl t3 k (by omega) (by first | rfl | omega) ?_; clear t3; intro wn ht hcn hzn; have hsz := B.size; replace hzn := Nat.le_of_eq hzn.symm; replace B := Chg.below B hcn (by omega) B.size; (try replace t2 := t2.of_eq (hcn.block _ t2.lt (by omega))); have t3 := ht; clear ht; simp only [Act.put, List.setIfInBounds_toArray, List.set_cons_zero, List.set_cons_succ]) | (go_at_call 31; refine (R_Clean _ _ (madeP_ok _)).mono ?_; rintro e wn ⟨rfl, hbn⟩; have hsz := B.size; have hzn := hbn.size; replace B := B.trans (hbn.mono B.size); (try first | replace t2 := t2.of_eq (hbn.block _ t2.lt) | replace t2 := t2.below hbn); (try first | replace t3 := t3.of_eq (hbn.block _ t3.lt) | replace t3 := t3.below hbn)) | (go_at_call 24; refine (R_Made4 _ _).mono ?_; rintro e wn ⟨rfl, hbn⟩; have hsz := B.size; have hzn := hbn.size; replace B := B.trans (hbn.mono B.size); (try first | replace t2 := t2.of_eq (hbn.block _ t2.lt) | replace t2 := t2.below hbn); (try first | replace t3 := t3.of_eq (hbn.block _ t3.lt) | replace t3 := t3.below hbn)) | fail)
          go_roundw
          case rel => exact ⟨k + 1, by omega, by go_num, B, t2, by rw [← stepT_next, E.out]; exact t3⟩
          case measure => simp [intOf]; omega
      · obtain rfl : k = 64 := by omega
        replace t3 := t3.congr (stepT_all _ _)
        go_wp2_with (first | (refine wpList_storeT rfl _ _ rfl _ rfl _ rfl t2 ?_; clear t2; intro wn ht hcn hzn; have hsz := B.size; replace hzn := Nat.le_of_eq hzn.symm; replace B := Chg.below B hcn (by omega) B.size; (try replace t3 := t3.of_eq (hcn.block _ t3.lt (by omega))); have t2 := ht; clear ht; simp only [Act.put, List.setIfInBounds_toArray, List.set_cons_zero, List.set_cons_succ]) | (refine wpList_loadT rfl _ rfl _ rfl t3 ?_; simp only [Act.put, List.setIfInBounds_toArray, List.set_cons_zero, List.set_cons_succ]) | fail)
        refine bodyPost_ret (results_tile rfl _ _ (b_t2) rfl t2) rfl ?_
        exact ⟨by rw [HM.out], B⟩
def pickI (L : List Int) (i : Nat) (m : Int) : Int := if i < L.length then getI L i % 1048576 % m else 0
set_option maxHeartbeats 1000000 in
theorem R_pick (v : Value) (L : List Int) (i : Nat) (m : Int) (w : World) (h : RSE inE v L w) (hn : L.length ≤ 17592186044416) (hm : 0 < m) (hm2 : m ≤ 100) : Calls Try.prog 61 #[v, .int .i64 i, .int .i64 m] w fun e w' => e = .returned (.int .i64 (pickI L i m)) ∧ w' = w := by
  obtain ⟨a, c, rfl, hc⟩ := h.len
  by_cases hi : i < L.length
  · have e1 : pickI L i m = getI L i % 1048576 % m := by unfold pickI; rw [if_pos hi]
    rw [e1]
    obtain ⟨g, o, rfl, rc⟩ := h.at (by omega)
    have hix := hi
    have b1 := bits_and1048575 (getI L i)
    have d1 : decide ((i : Int) < (L.length : Int)) = true := decide_eq_true (by omega)
    go_enter Try.func61, Try.ntmps61
    go_wp2_with (first | (refine wpList_loadAny (t := 3) rfl _ rfl _ _ _ rfl (run_load_int (rci_int rc (getD_some hix))) (by first | with_reducible rfl | omega) ?_; simp only [Act.put, List.setIfInBounds_toArray, List.set_cons_zero, List.set_cons_succ]) | fail)
    go_ret
    exact ⟨rfl, rfl⟩
  · have e1 : pickI L i m = 0 := by unfold pickI; rw [if_neg hi]
    have d1 : decide ((i : Int) < (L.length : Int)) = false := decide_eq_false (by omega)
    rw [e1]
    go_enter Try.func61, Try.ntmps61
    go_wp2
    go_ret
    exact ⟨rfl, rfl⟩
end Go.Proofs.Ytppccnjckiedlaa
/- Contract of gouacheref08.Made. -/
namespace Go.Proofs.Ytppccnjckiedlaa
open Go.RowKit Go.Shelf Pl
set_option linter.unusedVariables false
set_option linter.unusedSimpArgs false
set_option maxRecDepth 20000

theorem pickI_bd (L : List Int) (i : Nat) : 0 ≤ pickI L i 48 ∧ pickI L i 48 < 48 := by
  unfold pickI; split <;> omega
theorem R_pickB (v : Value) (L : List Int) (i : Nat) (j : Int) (hj : j = i) (w : World) (h : RSE inE v L w) (hn : L.length ≤ 17592186044416) : Calls Try.prog 61 #[v, .int .i64 j, .int .i64 48] w fun e w' => e = .returned (.int .i64 (pickI L i 48)) ∧ Below w.heap.size w w' := by
  subst hj
  exact (R_pick v L i 48 w h hn (by omega) (by omega)).mono fun e w' ⟨he, hw⟩ => ⟨he, hw ▸ Below.refl _ _⟩
/-- The raster that Made of gouacheref08 builds, after k rounds. -/
def madeK (L : List Int) : Nat → List TA
  | 0 => []
  | k + 1 => if 3 * k + 2 < L.length then setR (madeK L k) (pickI L (3 * k) 48 - 20) (pickI L (3 * k + 1) 48 - 20) (madeP (getI L (3 * k + 2))) else madeK L k
def madeL (L : List Int) : List TA := madeK L 40
theorem madeK_stop (L : List Int) (k : Nat) (h : ¬ 3 * k + 2 < L.length) : ∀ j, madeK L (k + j) = madeK L k
  | 0 => rfl
  | j + 1 => by
    show (if 3 * (k + j) + 2 < L.length then _ else _) = _
    rw [if_neg (by omega)]
    exact madeK_stop L k h j
theorem madeK_valid (L : List Int) : ∀ k, validL (madeK L k) = true
  | 0 => validL_nil
  | k + 1 => by
    show validL (if _ then _ else _) = true
    split
    · exact putR_valid _ _ _ _
    · exact madeK_valid L k
theorem madeK_tok (L : List Int) : ∀ k, TokL (madeK L k)
  | 0 => TokL.nil
  | k + 1 => by
    show TokL (if _ then _ else _)
    split
    · exact setR_tok (madeK_tok L k) (madeP_ok _)
    · exact madeK_tok L k
theorem madeK_len (L : List Int) (k : Nat) : (madeK L k).length ≤ 1024 := (validL_iff.1 (madeK_valid L k)).1
theorem run_load_ras {w : World} {b j : Nat} {v : Value} (h : w.cell? ⟨b, j, none⟩ = some v) : (Instr.loadAt 30 (.pointer (some ⟨b, j, none⟩))).run Try.prog w = .ok (.agg #[v]) w := by
  simp [go_sem, h]
set_option maxHeartbeats 2000000 in
theorem R_Made8 (v : Value) (L : List Int) (w : World) (h : RSE inE v L w) (hn : L.length ≤ 17592186044416) : Calls Try.prog 18 #[v] w fun e w' => ∃ v', e = .returned (.agg #[v']) ∧ RS v' (madeL L) w' ∧ Below w.heap.size w w' := by
  have B := Below.refl w.heap.size w
  have HL := Lib.hid h
  obtain ⟨a, c, rfl, hc⟩ := h.len
  clear h
  go_enter Try.func18, Try.ntmps18
  go_wp2_with (first | (refine wpList_storeB (t := 30) rfl _ _ rfl _ rfl _ rfl r3 (by kernel_rfl) rfl (by simp [Value.oneCell']) ?_; clear r3; intro wn ht hcn hzn; have hsz := B.size; replace hzn := Nat.le_of_eq hzn.symm; replace B := Chg.below B hcn (by omega) B.size; (try replace r2 := r2.of_eq (hcn.block _ r2.lt (by omega))); (try replace q5 := q5.of_eq (hcn.block _ q5.lt (by omega))); (try replace g6 := g6.of_eq (hcn.block _ g6.lt (by omega))); have r3 := ht; clear ht; simp only [Act.put, List.setIfInBounds_toArray, List.set_cons_zero, List.set_cons_succ]) | (have _ := r2; refine wpList_allocBk (t := 30) rfl _ (run_alloc_R _ _ rfl) ?_; intro b_r3 wn hle hge ht hbn hzn; have hsz := B.size; replace B := B.trans (hbn.mono (by omega)); have hln := Nat.lt_of_lt_of_eq (Nat.lt_succ_self _) hzn.symm; clear hzn; (try first | (have hlt := r2.lt; replace r2 := r2.of_eq (hbn.block _ (by omega))) | replace r2 := r2.below (hbn.mono hle)); (try first | (have hlt := r3.lt; replace r3 := r3.of_eq (hbn.block _ (by omega))) | replace r3 := r3.below (hbn.mono hle)); (try first | (have hlt := q5.lt; replace q5 := q5.of_eq (hbn.block _ (by omega))) | replace q5 := q5.below (hbn.mono hle)); (try first | (have hlt := g6.lt; replace g6 := g6.of_eq (hbn.block _ (by omega))) | replace g6 := g6.below (hbn.mono hle)); have r3 := ht; clear ht; simp only [Act.put, List.setIfInBounds_toArray, List.set_cons_zero, List.set_cons_succ]) | (refine wpList_allocBk (t := 30) rfl _ (run_alloc_R _ _ rfl) ?_; intro b_r2 wn hle hge ht hbn hzn; have hsz := B.size; replace B := B.trans (hbn.mono (by omega)); have hln := Nat.lt_of_lt_of_eq (Nat.lt_succ_self _) hzn.symm; clear hzn; (try first | (have hlt := r2.lt; replace r2 := r2.of_eq (hbn.block _ (by omega))) | replace r2 := r2.below (hbn.mono hle)); (try first | (have hlt := r3.lt; replace r3 := r3.of_eq (hbn.block _ (by omega))) | replace r3 := r3.below (hbn.mono hle)); (try first | (have hlt := q5.lt; replace q5 := q5.of_eq (hbn.block _ (by omega))) | replace q5 := q5.below (hbn.mono hle)); (try first | (have hlt := g6.lt; replace g6 := g6.of_eq (hbn.block _ (by omega))) | replace g6 := g6.below (hbn.mono hle)); have r2 := ht; clear ht; simp only [Act.put, List.setIfInBounds_toArray, List.set_cons_zero, List.set_cons_succ]) | fail)
  go_loopw [4, 5, 6] (fun i _ _ wr => ∃ (k n : Nat) (a0 : Option Addr) (c0 : Nat), n = 3 * k ∧ k ≤ 40 ∧ i = .int .i64 n ∧ Below w.heap.size w wr ∧ AtB 30 wr b_r2 #[.slice none 0 0] ∧ AtB 30 wr b_r3 #[.slice a0 (madeK L k).length c0] ∧ RS (.slice a0 (madeK L k).length c0) (madeK L k) wr) (fun i _ _ _ => (120 - intOf i).toNat)
  case atStart => exact ⟨0, 0, none, 0, rfl, by omega, rfl, B, r2, r3, RS.nil _⟩
  case round =>
    clear B r2 r3
    obtain ⟨k, n, a0, c0, hn3, hk, rfl, B, r2, r3, rs⟩ := hrel
    have hml := madeK_len L k
    by_cases hq : n + 2 < L.length ∧ n < 120
    · obtain ⟨hix, hlt⟩ := hq
      have E := Lib.hid (show madeK L (k + 1) = setR (madeK L k) (pickI L n 48 - 20) (pickI L (n + 1) 48 - 20) (madeP (getI L (n + 2))) from by
        show (if _ then _ else _) = _
        rw [if_pos (by omega), hn3])
      have hk39 : k < 40 := by omega
      have HN := Lib.hid hn3
      clear hn3
      have d1 : decide ((n : Int) + 2 < (L.length : Int)) = true := decide_eq_true (by omega)
      have d2 : decide ((n : Int) < 120) = true := decide_eq_true (by omega)
      obtain ⟨g, o, rfl, rcw⟩ := HL.out.at (by omega)
      have rc := rcw.of_eq (B.block _ rcw.lt)
      have hb1 := pickI_bd L n
      have hb2 := pickI_bd L (n + 1)
      obtain ⟨x, hx⟩ : ∃ x, pickI L n 48 - 20 = x := ⟨_, rfl⟩
      obtain ⟨y, hy⟩ : ∃ y, pickI L (n + 1) 48 - 20 = y := ⟨_, rfl⟩
      have wx : (Lit.int .i64 x).wf = true := wf_mk (by omega) (by omega)
      have wy : (Lit.int .i64 y).wf = true := wf_mk (by omega) (by omega)
      rw [hx, hy] at E
      go_upto_region 6 with (first | (refine wpList_storePx rfl _ _ rfl _ rfl (_) rfl q5 ?_; have q5o := q5; clear q5; intro wn ht hcn hzn; replace rs := rs.chg (show AtB 37 _ b_q5 (pxA _) from q5o) (by simp [pxA]) hcn; have hsz := B.size; replace hzn := Nat.le_of_eq hzn.symm; replace B := Chg.below B hcn (by omega) B.size; (try replace r2 := r2.of_eq (hcn.block _ r2.lt (by omega))); (try replace r3 := r3.of_eq (hcn.block _ r3.lt (by omega))); (try replace g6 := g6.of_eq (hcn.block _ g6.lt (by omega))); have q5 := ht; clear ht; simp only [Act.put, List.setIfInBounds_toArray, List.set_cons_zero, List.set_cons_succ]) | (have _ := r3; refine wpList_allocPx' rfl rfl ?_; intro b_q5 wn hle hge ht hbn hzn; have hsz := B.size; replace B := B.trans (hbn.mono (by omega)); have hln := Nat.lt_of_lt_of_eq (Nat.lt_succ_self _) hzn.symm; clear hzn; (try first | (have hlt := r2.lt; replace r2 := r2.of_eq (hbn.block _ (by omega))) | replace r2 := r2.below (hbn.mono hle)); (try first | (have hlt := r3.lt; replace r3 := r3.of_eq (hbn.block _ (by omega))) | replace r3 := r3.below (hbn.mono hle)); (try first | (have hlt := q5.lt; replace q5 := q5.of_eq (hbn.block _ (by omega))) | replace q5 := q5.below (hbn.mono hle)); (try first | (have hlt := g6.lt; replace g6 := g6.of_eq (hbn.block _ (by omega))) | replace g6 := g6.below (hbn.mono hle)); (try first | (have hlt := rs.lt; replace rs := rs.of_eq (hbn.block _ (by omega))) | replace rs := rs.below (hbn.mono hle)); have q5 := ht; clear ht; simp only [Act.put, List.setIfInBounds_toArray, List.set_cons_zero, List.set_cons_succ]) | (go_at_call 24; refine (R_Made4 _ _).mono ?_; rintro e wn ⟨rfl, hbn⟩; have hsz := B.size; have hzn := hbn.size; replace B := B.trans (hbn.mono B.size); (try first | replace r2 := r2.of_eq (hbn.block _ r2.lt) | replace r2 := r2.below hbn); (try first | replace r3 := r3.of_eq (hbn.block _ r3.lt) | replace r3 := r3.below hbn); (try first | replace q5 := q5.of_eq (hbn.block _ q5.lt) | replace q5 := q5.below hbn); (try first | replace g6 := g6.of_eq (hbn.block _ g6.lt) | replace g6 := g6.below hbn); (try first | replace rs := rs.of_eq (hbn.block _ rs.lt) | replace rs := rs.below hbn)) | (refine wpList_loadAny (t := 3) rfl _ rfl _ _ _ rfl (run_load_int (rci_int rc (getD_some hix))) (by first | rfl | omega) ?_; simp only [Act.put, List.setIfInBounds_toArray, List.set_cons_zero, List.set_cons_succ]) | fail)
      have q1 := q5.lt
      have q2 := r3.lt
      go_cut [6] from 25 to 36 (fun s wx => ∃ (b_g6 : Nat) (a1 : Option Addr) (c1 : Nat) (e1 : Int), s = .pointer (some ⟨b_g6, 0, none⟩) ∧ AtB 50 wx b_g6 #[.slice a1 (madeK L (k + 1)).length c1, .int .i64 e1] ∧ RS (.slice a1 (madeK L (k + 1)).length c1) (madeK L (k + 1)) wx ∧ Below w.heap.size w wx ∧ AtB 30 wx b_r2 #[.slice none 0 0] ∧ AtB 30 wx b_r3 #[.slice a0 (madeK L k).length c0])
      case first =>
        try have r2B := r2
        try have r3B := r3
        try have q5B := q5
        try have g6B := g6
        try have rsB := rs
        refine wp_region_X0 13 #[false, false, false, false, false, false, false, false, false, false, false, false, false, false] (by kernel_rfl) (by kernel_rfl) ?_
        intro wn hbn
        have hX := hbn
        have hsz := B.size
        have hzn := hbn.size
        replace B := B.trans (hbn.mono B.size)
        try first | replace r2 := r2.of_eq (hbn.block _ r2.lt) | replace r2 := r2.below hbn
        try first | replace r3 := r3.of_eq (hbn.block _ r3.lt) | replace r3 := r3.below hbn
        try first | replace q5 := q5.of_eq (hbn.block _ q5.lt) | replace q5 := q5.below hbn
        try first | replace g6 := g6.of_eq (hbn.block _ g6.lt) | replace g6 := g6.below hbn
        try first | replace rs := rs.of_eq (hbn.block _ rs.lt) | replace rs := rs.below hbn
        simp only [List.length_cons, List.length_nil, Nat.reduceAdd]
        refine anyX_take 0 rfl (by kernel_rfl) ⟨_, ov_of hX⟩ ?_
        intro K hK
        try simp only [List.getElem_toArray, List.getElem_cons_zero, List.getElem_cons_succ]
        (first | (refine quiet_loadAny (t := 30) rfl _ _ _ rfl (fun w hw => run_load_B (ov_B r3B w hw) Try.isAgg30 (by kernel_rfl)) (by rfl) ?_; simp only [Act.put, List.setIfInBounds_toArray, List.set_cons_zero, List.set_cons_succ]; go_big_quiet_on) | (refine quiet_loadPx rfl _ rfl (ov_px q5B) ?_; simp only [Act.put, List.setIfInBounds_toArray, List.set_cons_zero, List.set_cons_succ]; go_big_quiet_on) | (go_big_quiet_op; go_big_quiet_on))
        simp only [Act.put, List.setIfInBounds_toArray, List.set_cons_zero, List.set_cons_succ]
        refine anyX_take 1 rfl (by kernel_rfl) ⟨_, ov_of hX⟩ ?_
        intro K hK
        try simp only [List.getElem_toArray, List.getElem_cons_zero, List.getElem_cons_succ]
        (first | (refine quiet_loadAny (t := 30) rfl _ _ _ rfl (fun w hw => run_load_B (ov_B r3B w hw) Try.isAgg30 (by kernel_rfl)) (by rfl) ?_; simp only [Act.put, List.setIfInBounds_toArray, List.set_cons_zero, List.set_cons_succ]; go_big_quiet_on) | (refine quiet_loadPx rfl _ rfl (ov_px q5B) ?_; simp only [Act.put, List.setIfInBounds_toArray, List.set_cons_zero, List.set_cons_succ]; go_big_quiet_on) | (go_big_quiet_op; go_big_quiet_on))
        simp only [Act.put, List.setIfInBounds_toArray, List.set_cons_zero, List.set_cons_succ]
        refine anyX_take 2 rfl (by kernel_rfl) ⟨_, ov_of hX⟩ ?_
        intro K hK
        try simp only [List.getElem_toArray, List.getElem_cons_zero, List.getElem_cons_succ]
        (first | (refine quiet_loadAny (t := 30) rfl _ _ _ rfl (fun w hw => run_load_B (ov_B r3B w hw) Try.isAgg30 (by kernel_rfl)) (by rfl) ?_; simp only [Act.put, List.setIfInBounds_toArray, List.set_cons_zero, List.set_cons_succ]; go_big_quiet_on) | (refine quiet_loadPx rfl _ rfl (ov_px q5B) ?_; simp only [Act.put, List.setIfInBounds_toArray, List.set_cons_zero, List.set_cons_succ]; go_big_quiet_on) | (go_big_quiet_op; go_big_quiet_on))
        simp only [Act.put, List.setIfInBounds_toArray, List.set_cons_zero, List.set_cons_succ]
        refine anyX_take 5 rfl (by kernel_rfl) ⟨_, ov_of hX⟩ ?_
        intro K hK
        try simp only [List.getElem_toArray, List.getElem_cons_zero, List.getElem_cons_succ]
        (first | (refine quiet_loadAny (t := 30) rfl _ _ _ rfl (fun w hw => run_load_B (ov_B r3B w hw) Try.isAgg30 (by kernel_rfl)) (by rfl) ?_; simp only [Act.put, List.setIfInBounds_toArray, List.set_cons_zero, List.set_cons_succ]; go_big_quiet_on) | (refine quiet_loadPx rfl _ rfl (ov_px q5B) ?_; simp only [Act.put, List.setIfInBounds_toArray, List.set_cons_zero, List.set_cons_succ]; go_big_quiet_on) | (go_big_quiet_op; go_big_quiet_on))
        simp only [Act.put, List.setIfInBounds_toArray, List.set_cons_zero, List.set_cons_succ]
        refine anyX_take 6 rfl (by kernel_rfl) ⟨_, ov_of hX⟩ ?_
        intro K hK
        try simp only [List.getElem_toArray, List.getElem_cons_zero, List.getElem_cons_succ]
        (first | (refine quiet_loadAny (t := 30) rfl _ _ _ rfl (fun w hw => run_load_B (ov_B r3B w hw) Try.isAgg30 (by kernel_rfl)) (by rfl) ?_; simp only [Act.put, List.setIfInBounds_toArray, List.set_cons_zero, List.set_cons_succ]; go_big_quiet_on) | (refine quiet_loadPx rfl _ rfl (ov_px q5B) ?_; simp only [Act.put, List.setIfInBounds_toArray, List.set_cons_zero, List.set_cons_succ]; go_big_quiet_on) | (go_big_quiet_op; go_big_quiet_on))
        simp only [Act.put, List.setIfInBounds_toArray, List.set_cons_zero, List.set_cons_succ]
        refine anyX_take 7 rfl (by kernel_rfl) ⟨_, ov_of hX⟩ ?_
        intro K hK
        try simp only [List.getElem_toArray, List.getElem_cons_zero, List.getElem_cons_succ]
        (first | (refine quiet_loadAny (t := 30) rfl _ _ _ rfl (fun w hw => run_load_B (ov_B r3B w hw) Try.isAgg30 (by kernel_rfl)) (by rfl) ?_; simp only [Act.put, List.setIfInBounds_toArray, List.set_cons_zero, List.set_cons_succ]; go_big_quiet_on) | (refine quiet_loadPx rfl _ rfl (ov_px q5B) ?_; simp only [Act.put, List.setIfInBounds_toArray, List.set_cons_zero, List.set_cons_succ]; go_big_quiet_on) | (go_big_quiet_op; go_big_quiet_on))
        simp only [Act.put, List.setIfInBounds_toArray, List.set_cons_zero, List.set_cons_succ]
        refine anyX_take 10 rfl (by kernel_rfl) ⟨_, ov_of hX⟩ ?_
        intro K hK
        try simp only [List.getElem_toArray, List.getElem_cons_zero, List.getElem_cons_succ]
        (first | (refine quiet_loadAny (t := 30) rfl _ _ _ rfl (fun w hw => run_load_B (ov_B r3B w hw) Try.isAgg30 (by kernel_rfl)) (by rfl) ?_; simp only [Act.put, List.setIfInBounds_toArray, List.set_cons_zero, List.set_cons_succ]; go_big_quiet_on) | (refine quiet_loadPx rfl _ rfl (ov_px q5B) ?_; simp only [Act.put, List.setIfInBounds_toArray, List.set_cons_zero, List.set_cons_succ]; go_big_quiet_on) | (go_big_quiet_op; go_big_quiet_on))
        simp only [Act.put, List.setIfInBounds_toArray, List.set_cons_zero, List.set_cons_succ]
        refine anyX_two 3 12 rfl rfl (by kernel_rfl) rfl rfl (fun K hK => ?_) (fun K hK => ?_)
        · skip
          try simp only [List.getElem_toArray, List.getElem_cons_zero, List.getElem_cons_succ]
          go_simp
          go_at_call 61
          refine (R_pickB _ L n _ rfl _ (HL.out.below B) hn).mono ?_
          rintro e wn ⟨rfl, hbn⟩
          have hsz := B.size
          have hzn := hbn.size
          have hsx := hX.size
          replace B := B.trans (hbn.mono B.size)
          replace hX := hX.trans (hbn.mono hX.size)
          try first | replace r2 := r2.of_eq (hbn.block _ r2.lt) | replace r2 := r2.below hbn
          try first | replace r3 := r3.of_eq (hbn.block _ r3.lt) | replace r3 := r3.below hbn
          try first | replace q5 := q5.of_eq (hbn.block _ q5.lt) | replace q5 := q5.below hbn
          try first | replace g6 := g6.of_eq (hbn.block _ g6.lt) | replace g6 := g6.below hbn
          try first | replace rs := rs.of_eq (hbn.block _ rs.lt) | replace rs := rs.below hbn
          refine hK _ _ ⟨fun _ => ⟨_, ov_of hX⟩, ?_⟩
          clear hK K
          try simp only [List.getElem_toArray, List.getElem_cons_zero, List.getElem_cons_succ]
          simp only [Act.put, List.setIfInBounds_toArray, List.set_cons_zero, List.set_cons_succ]
          refine anyX_take 4 rfl (by kernel_rfl) ⟨_, ov_of hX⟩ ?_
          intro K hK
          try simp only [List.getElem_toArray, List.getElem_cons_zero, List.getElem_cons_succ]
          (first | (refine quiet_loadAny (t := 30) rfl _ _ _ rfl (fun w hw => run_load_B (ov_B r3B w hw) Try.isAgg30 (by kernel_rfl)) (by rfl) ?_; simp only [Act.put, List.setIfInBounds_toArray, List.set_cons_zero, List.set_cons_succ]; go_big_quiet_on) | (refine quiet_loadPx rfl _ rfl (ov_px q5B) ?_; simp only [Act.put, List.setIfInBounds_toArray, List.set_cons_zero, List.set_cons_succ]; go_big_quiet_on) | (go_big_quiet_op; go_big_quiet_on))
          simp only [Act.put, List.setIfInBounds_toArray, List.set_cons_zero, List.set_cons_succ]
          refine anyX_two 8 12 rfl rfl (by kernel_rfl) rfl rfl (fun K hK => ?_) (fun K hK => ?_)
          · skip
            try simp only [List.getElem_toArray, List.getElem_cons_zero, List.getElem_cons_succ]
            go_simp
            go_at_call 61
            refine (R_pickB _ L (n + 1) _ (by omega) _ (HL.out.below B) hn).mono ?_
            rintro e wn ⟨rfl, hbn⟩
            have hsz := B.size
            have hzn := hbn.size
            have hsx := hX.size
            replace B := B.trans (hbn.mono B.size)
            replace hX := hX.trans (hbn.mono hX.size)
            try first | replace r2 := r2.of_eq (hbn.block _ r2.lt) | replace r2 := r2.below hbn
            try first | replace r3 := r3.of_eq (hbn.block _ r3.lt) | replace r3 := r3.below hbn
            try first | replace q5 := q5.of_eq (hbn.block _ q5.lt) | replace q5 := q5.below hbn
            try first | replace g6 := g6.of_eq (hbn.block _ g6.lt) | replace g6 := g6.below hbn
            try first | replace rs := rs.of_eq (hbn.block _ rs.lt) | replace rs := rs.below hbn
            refine hK _ _ ⟨fun _ => ⟨_, ov_of hX⟩, ?_⟩
            clear hK K
            try simp only [List.getElem_toArray, List.getElem_cons_zero, List.getElem_cons_succ]
            simp only [Act.put, List.setIfInBounds_toArray, List.set_cons_zero, List.set_cons_succ]
            refine anyX_take 9 rfl (by kernel_rfl) ⟨_, ov_of hX⟩ ?_
            intro K hK
            try simp only [List.getElem_toArray, List.getElem_cons_zero, List.getElem_cons_succ]
            (first | (refine quiet_loadAny (t := 30) rfl _ _ _ rfl (fun w hw => run_load_B (ov_B r3B w hw) Try.isAgg30 (by kernel_rfl)) (by rfl) ?_; simp only [Act.put, List.setIfInBounds_toArray, List.set_cons_zero, List.set_cons_succ]; go_big_quiet_on) | (refine quiet_loadPx rfl _ rfl (ov_px q5B) ?_; simp only [Act.put, List.setIfInBounds_toArray, List.set_cons_zero, List.set_cons_succ]; go_big_quiet_on) | (go_big_quiet_op; go_big_quiet_on))
            simp only [Act.put, List.setIfInBounds_toArray, List.set_cons_zero, List.set_cons_succ]
            refine anyX_two 11 12 rfl rfl (by kernel_rfl) rfl rfl (fun K hK => ?_) (fun K hK => ?_)
            · skip
              try simp only [List.getElem_toArray, List.getElem_cons_zero, List.getElem_cons_succ]
              go_simp
              go_at_call 27
              refine (R_SetR _ (madeK L k) x y _ _ rs (madeK_tok L k) (by unfold maxLen; omega) wx wy (madeP_ok _)).mono ?_
              rintro e wn ⟨v1, rfl, rs1, hbn⟩
              obtain ⟨a1, c1, rfl, hc1⟩ := rs1.len
              have hsz := B.size
              have hzn := hbn.size
              have hsx := hX.size
              replace B := B.trans (hbn.mono B.size)
              replace hX := hX.trans (hbn.mono hX.size)
              try first | replace r2 := r2.of_eq (hbn.block _ r2.lt) | replace r2 := r2.below hbn
              try first | replace r3 := r3.of_eq (hbn.block _ r3.lt) | replace r3 := r3.below hbn
              try first | replace q5 := q5.of_eq (hbn.block _ q5.lt) | replace q5 := q5.below hbn
              try first | replace g6 := g6.of_eq (hbn.block _ g6.lt) | replace g6 := g6.below hbn
              refine hK _ _ ⟨fun _ => ⟨_, ov_of hX⟩, ?_⟩
              clear hK K
              try simp only [List.getElem_toArray, List.getElem_cons_zero, List.getElem_cons_succ]
              simp only [Act.put, List.setIfInBounds_toArray, List.set_cons_zero, List.set_cons_succ]
              refine anyX_next 12 rfl (by kernel_rfl) rfl (fun K hK => ?_)
              try simp only [List.getElem_toArray, List.getElem_cons_zero, List.getElem_cons_succ]
              refine owp_allocBk (t := 50) _ (run_alloc_G _ _ rfl) ?_
              intro b_g6 wn hle hge ht hbn hzn
              have hsz := B.size
              have hsx := hX.size
              replace B := B.trans (hbn.mono (by omega))
              replace hX := hX.trans (hbn.mono (by omega))
              try first | (have hlt := r2.lt; replace r2 := r2.of_eq (hbn.block _ (by omega))) | replace r2 := r2.below (hbn.mono hle)
              try first | (have hlt := r3.lt; replace r3 := r3.of_eq (hbn.block _ (by omega))) | replace r3 := r3.below (hbn.mono hle)
              try first | (have hlt := q5.lt; replace q5 := q5.of_eq (hbn.block _ (by omega))) | replace q5 := q5.below (hbn.mono hle)
              try first | (have hlt := g6.lt; replace g6 := g6.of_eq (hbn.block _ (by omega))) | replace g6 := g6.below (hbn.mono hle)
              try first | (have hlt := rs.lt; replace rs := rs.of_eq (hbn.block _ (by omega))) | replace rs := rs.below (hbn.mono hle)
              try first | (have hlt := rs1.lt; replace rs1 := rs1.of_eq (hbn.block _ (by omega))) | replace rs1 := rs1.below (hbn.mono hle)
              have g6 := ht
              clear ht
              refine hK _ _ ⟨fun _ => ⟨_, ov_of hX⟩, ?_⟩
              clear hK K
              try simp only [List.getElem_toArray, List.getElem_cons_zero, List.getElem_cons_succ]
              simp only [Act.put, List.setIfInBounds_toArray, List.set_cons_zero, List.set_cons_succ]
              refine anyX_seq (by kernel_rfl) (by kernel_rfl) ?_
              simp only [List.drop_succ_cons, List.drop_zero]
              go_wp2_with (first | (refine wpList_storeB (t := 50) rfl _ _ rfl _ rfl _ rfl g6 (by kernel_rfl) rfl (by simp [Value.oneCell']) ?_; have g6o := g6; clear g6; intro wn ht hcn hzn; replace rs1 := rs1.chg g6o (by simp) hcn; have hsz := B.size; replace hzn := Nat.le_of_eq hzn.symm; replace B := Chg.below B hcn (by omega) B.size; (try replace r2 := r2.of_eq (hcn.block _ r2.lt (by omega))); (try replace r3 := r3.of_eq (hcn.block _ r3.lt (by omega))); (try replace q5 := q5.of_eq (hcn.block _ q5.lt (by omega))); have g6 := ht; clear ht; simp only [Act.put, List.setIfInBounds_toArray, List.set_cons_zero, List.set_cons_succ]) | fail)
              refine NoPan.normal ?_
              go_wp2_with fail
              go_meet
              exact ⟨b_g6, a1, c1, _, rfl, by rw [E.out]; exact g6, by rw [E.out]; exact rs1, B, r2, r3⟩
            · skip
              try simp only [List.getElem_toArray, List.getElem_cons_zero, List.getElem_cons_succ]
              refine owp_allocBk (t := 50) _ (run_alloc_G _ _ rfl) ?_
              intro b_g6 wn hle hge ht hbn hzn
              have hsz := B.size
              have hsx := hX.size
              replace B := B.trans (hbn.mono (by omega))
              replace hX := hX.trans (hbn.mono (by omega))
              try first | (have hlt := r2.lt; replace r2 := r2.of_eq (hbn.block _ (by omega))) | replace r2 := r2.below (hbn.mono hle)
              try first | (have hlt := r3.lt; replace r3 := r3.of_eq (hbn.block _ (by omega))) | replace r3 := r3.below (hbn.mono hle)
              try first | (have hlt := q5.lt; replace q5 := q5.of_eq (hbn.block _ (by omega))) | replace q5 := q5.below (hbn.mono hle)
              try first | (have hlt := g6.lt; replace g6 := g6.of_eq (hbn.block _ (by omega))) | replace g6 := g6.below (hbn.mono hle)
              try first | (have hlt := rs.lt; replace rs := rs.of_eq (hbn.block _ (by omega))) | replace rs := rs.below (hbn.mono hle)
              try first | (have hlt := rs1.lt; replace rs1 := rs1.of_eq (hbn.block _ (by omega))) | replace rs1 := rs1.below (hbn.mono hle)
              have g6 := ht
              clear ht
              refine hK _ _ ⟨fun _ => ⟨_, ov_of hX⟩, ?_⟩
              clear hK K
              try simp only [List.getElem_toArray, List.getElem_cons_zero, List.getElem_cons_succ]
              simp only [Act.put, List.setIfInBounds_toArray, List.set_cons_zero, List.set_cons_succ]
              refine anyX_next 11 rfl (by kernel_rfl) rfl (fun K hK => ?_)
              try simp only [List.getElem_toArray, List.getElem_cons_zero, List.getElem_cons_succ]
              go_simp
              go_at_call 27
              refine (R_SetR _ (madeK L k) x y _ _ rs (madeK_tok L k) (by unfold maxLen; omega) wx wy (madeP_ok _)).mono ?_
              rintro e wn ⟨v1, rfl, rs1, hbn⟩
              obtain ⟨a1, c1, rfl, hc1⟩ := rs1.len
              have hsz := B.size
              have hzn := hbn.size
              have hsx := hX.size
              replace B := B.trans (hbn.mono B.size)
              replace hX := hX.trans (hbn.mono hX.size)
              try first | replace r2 := r2.of_eq (hbn.block _ r2.lt) | replace r2 := r2.below hbn
              try first | replace r3 := r3.of_eq (hbn.block _ r3.lt) | replace r3 := r3.below hbn
              try first | replace q5 := q5.of_eq (hbn.block _ q5.lt) | replace q5 := q5.below hbn
              try first | replace g6 := g6.of_eq (hbn.block _ g6.lt) | replace g6 := g6.below hbn
              refine hK _ _ ⟨fun _ => ⟨_, ov_of hX⟩, ?_⟩
              clear hK K
              try simp only [List.getElem_toArray, List.getElem_cons_zero, List.getElem_cons_succ]
              simp only [Act.put, List.setIfInBounds_toArray, List.set_cons_zero, List.set_cons_succ]
              refine anyX_seq (by kernel_rfl) (by kernel_rfl) ?_
              simp only [List.drop_succ_cons, List.drop_zero]
              go_wp2_with (first | (refine wpList_storeB (t := 50) rfl _ _ rfl _ rfl _ rfl g6 (by kernel_rfl) rfl (by simp [Value.oneCell']) ?_; have g6o := g6; clear g6; intro wn ht hcn hzn; replace rs1 := rs1.chg g6o (by simp) hcn; have hsz := B.size; replace hzn := Nat.le_of_eq hzn.symm; replace B := Chg.below B hcn (by omega) B.size; (try replace r2 := r2.of_eq (hcn.block _ r2.lt (by omega))); (try replace r3 := r3.of_eq (hcn.block _ r3.lt (by omega))); (try replace q5 := q5.of_eq (hcn.block _ q5.lt (by omega))); have g6 := ht; clear ht; simp only [Act.put, List.setIfInBounds_toArray, List.set_cons_zero, List.set_cons_succ]) | fail)
              refine NoPan.normal ?_
              go_wp2_with fail
              go_meet
              exact ⟨b_g6, a1, c1, _, rfl, by rw [E.out]; exact g6, by rw [E.out]; exact rs1, B, r2, r3⟩
          · skip
            try simp only [List.getElem_toArray, List.getElem_cons_zero, List.getElem_cons_succ]
            refine owp_allocBk (t := 50) _ (run_alloc_G _ _ rfl) ?_
            intro b_g6 wn hle hge ht hbn hzn
            have hsz := B.size
            have hsx := hX.size
            replace B := B.trans (hbn.mono (by omega))
            replace hX := hX.trans (hbn.mono (by omega))
            try first | (have hlt := r2.lt; replace r2 := r2.of_eq (hbn.block _ (by omega))) | replace r2 := r2.below (hbn.mono hle)
            try first | (have hlt := r3.lt; replace r3 := r3.of_eq (hbn.block _ (by omega))) | replace r3 := r3.below (hbn.mono hle)
            try first | (have hlt := q5.lt; replace q5 := q5.of_eq (hbn.block _ (by omega))) | replace q5 := q5.below (hbn.mono hle)
            try first | (have hlt := g6.lt; replace g6 := g6.of_eq (hbn.block _ (by omega))) | replace g6 := g6.below (hbn.mono hle)
            try first | (have hlt := rs.lt; replace rs := rs.of_eq (hbn.block _ (by omega))) | replace rs := rs.below (hbn.mono hle)
            try first | (have hlt := rs1.lt; replace rs1 := rs1.of_eq (hbn.block _ (by omega))) | replace rs1 := rs1.below (hbn.mono hle)
            have g6 := ht
            clear ht
            refine hK _ _ ⟨fun _ => ⟨_, ov_of hX⟩, ?_⟩
            clear hK K
            try simp only [List.getElem_toArray, List.getElem_cons_zero, List.getElem_cons_succ]
            simp only [Act.put, List.setIfInBounds_toArray, List.set_cons_zero, List.set_cons_succ]
            refine anyX_next 8 rfl (by kernel_rfl) rfl (fun K hK => ?_)
            try simp only [List.getElem_toArray, List.getElem_cons_zero, List.getElem_cons_succ]
            go_simp
            go_at_call 61
            refine (R_pickB _ L (n + 1) _ (by omega) _ (HL.out.below B) hn).mono ?_
            rintro e wn ⟨rfl, hbn⟩
            have hsz := B.size
            have hzn := hbn.size
            have hsx := hX.size
            replace B := B.trans (hbn.mono B.size)
            replace hX := hX.trans (hbn.mono hX.size)
            try first | replace r2 := r2.of_eq (hbn.block _ r2.lt) | replace r2 := r2.below hbn
            try first | replace r3 := r3.of_eq (hbn.block _ r3.lt) | replace r3 := r3.below hbn
            try first | replace q5 := q5.of_eq (hbn.block _ q5.lt) | replace q5 := q5.below hbn
            try first | replace g6 := g6.of_eq (hbn.block _ g6.lt) | replace g6 := g6.below hbn
            try first | replace rs := rs.of_eq (hbn.block _ rs.lt) | replace rs := rs.below hbn
            refine hK _ _ ⟨fun _ => ⟨_, ov_of hX⟩, ?_⟩
            clear hK K
            try simp only [List.getElem_toArray, List.getElem_cons_zero, List.getElem_cons_succ]
            simp only [Act.put, List.setIfInBounds_toArray, List.set_cons_zero, List.set_cons_succ]
            refine anyX_take 9 rfl (by kernel_rfl) ⟨_, ov_of hX⟩ ?_
            intro K hK
            try simp only [List.getElem_toArray, List.getElem_cons_zero, List.getElem_cons_succ]
            (first | (refine quiet_loadAny (t := 30) rfl _ _ _ rfl (fun w hw => run_load_B (ov_B r3B w hw) Try.isAgg30 (by kernel_rfl)) (by rfl) ?_; simp only [Act.put, List.setIfInBounds_toArray, List.set_cons_zero, List.set_cons_succ]; go_big_quiet_on) | (refine quiet_loadPx rfl _ rfl (ov_px q5B) ?_; simp only [Act.put, List.setIfInBounds_toArray, List.set_cons_zero, List.set_cons_succ]; go_big_quiet_on) | (go_big_quiet_op; go_big_quiet_on))
            simp only [Act.put, List.setIfInBounds_toArray, List.set_cons_zero, List.set_cons_succ]
            refine anyX_next 11 rfl (by kernel_rfl) rfl (fun K hK => ?_)
            try simp only [List.getElem_toArray, List.getElem_cons_zero, List.getElem_cons_succ]
            go_simp
            go_at_call 27
            refine (R_SetR _ (madeK L k) x y _ _ rs (madeK_tok L k) (by unfold maxLen; omega) wx wy (madeP_ok _)).mono ?_
            rintro e wn ⟨v1, rfl, rs1, hbn⟩
            obtain ⟨a1, c1, rfl, hc1⟩ := rs1.len
            have hsz := B.size
            have hzn := hbn.size
            have hsx := hX.size
            replace B := B.trans (hbn.mono B.size)
            replace hX := hX.trans (hbn.mono hX.size)
            try first | replace r2 := r2.of_eq (hbn.block _ r2.lt) | replace r2 := r2.below hbn
            try first | replace r3 := r3.of_eq (hbn.block _ r3.lt) | replace r3 := r3.below hbn
            try first | replace q5 := q5.of_eq (hbn.block _ q5.lt) | replace q5 := q5.below hbn
            try first | replace g6 := g6.of_eq (hbn.block _ g6.lt) | replace g6 := g6.below hbn
            refine hK _ _ ⟨fun _ => ⟨_, ov_of hX⟩, ?_⟩
            clear hK K
            try simp only [List.getElem_toArray, List.getElem_cons_zero, List.getElem_cons_succ]
            simp only [Act.put, List.setIfInBounds_toArray, List.set_cons_zero, List.set_cons_succ]
            refine anyX_seq (by kernel_rfl) (by kernel_rfl) ?_
            simp only [List.drop_succ_cons, List.drop_zero]
            go_wp2_with (first | (refine wpList_storeB (t := 50) rfl _ _ rfl _ rfl _ rfl g6 (by kernel_rfl) rfl (by simp [Value.oneCell']) ?_; have g6o := g6; clear g6; intro wn ht hcn hzn; replace rs1 := rs1.chg g6o (by simp) hcn; have hsz := B.size; replace hzn := Nat.le_of_eq hzn.symm; replace B := Chg.below B hcn (by omega) B.size; (try replace r2 := r2.of_eq (hcn.block _ r2.lt (by omega))); (try replace r3 := r3.of_eq (hcn.block _ r3.lt (by omega))); (try replace q5 := q5.of_eq (hcn.block _ q5.lt (by omega))); have g6 := ht; clear ht; simp only [Act.put, List.setIfInBounds_toArray, List.set_cons_zero, List.set_cons_succ]) | fail)
            refine NoPan.normal ?_
            go_wp2_with fail
            go_meet
            exact ⟨b_g6, a1, c1, _, rfl, by rw [E.out]; exact g6, by rw [E.out]; exact rs1, B, r2, r3⟩
        · skip
          try simp only [List.getElem_toArray, List.getElem_cons_zero, List.getElem_cons_succ]
          refine owp_allocBk (t := 50) _ (run_alloc_G _ _ rfl) ?_
          intro b_g6 wn hle hge ht hbn hzn
          have hsz := B.size
          have hsx := hX.size
          replace B := B.trans (hbn.mono (by omega))
          replace hX := hX.trans (hbn.mono (by omega))
          try first | (have hlt := r2.lt; replace r2 := r2.of_eq (hbn.block _ (by omega))) | replace r2 := r2.below (hbn.mono hle)
          try first | (have hlt := r3.lt; replace r3 := r3.of_eq (hbn.block _ (by omega))) | replace r3 := r3.below (hbn.mono hle)
          try first | (have hlt := q5.lt; replace q5 := q5.of_eq (hbn.block _ (by omega))) | replace q5 := q5.below (hbn.mono hle)
          try first | (have hlt := g6.lt; replace g6 := g6.of_eq (hbn.block _ (by omega))) | replace g6 := g6.below (hbn.mono hle)
          try first | (have hlt := rs.lt; replace rs := rs.of_eq (hbn.block _ (by omega))) | replace rs := rs.below (hbn.mono hle)
          try first | (have hlt := rs1.lt; replace rs1 := rs1.of_eq (hbn.block _ (by omega))) | replace rs1 := rs1.below (hbn.mono hle)
          have g6 := ht
          clear ht
          refine hK _ _ ⟨fun _ => ⟨_, ov_of hX⟩, ?_⟩
          clear hK K
          try simp only [List.getElem_toArray, List.getElem_cons_zero, List.getElem_cons_succ]
          simp only [Act.put, List.setIfInBounds_toArray, List.set_cons_zero, List.set_cons_succ]
          refine anyX_next 3 rfl (by kernel_rfl) rfl (fun K hK => ?_)
          try simp only [List.getElem_toArray, List.getElem_cons_zero, List.getElem_cons_succ]
          go_simp
          go_at_call 61
          refine (R_pickB _ L n _ rfl _ (HL.out.below B) hn).mono ?_
          rintro e wn ⟨rfl, hbn⟩
          have hsz := B.size
          have hzn := hbn.size
          have hsx := hX.size
          replace B := B.trans (hbn.mono B.size)
          replace hX := hX.trans (hbn.mono hX.size)
          try first | replace r2 := r2.of_eq (hbn.block _ r2.lt) | replace r2 := r2.below hbn
          try first | replace r3 := r3.of_eq (hbn.block _ r3.lt) | replace r3 := r3.below hbn
          try first | replace q5 := q5.of_eq (hbn.block _ q5.lt) | replace q5 := q5.below hbn
          try first | replace g6 := g6.of_eq (hbn.block _ g6.lt) | replace g6 := g6.below hbn
          try first | replace rs := rs.of_eq (hbn.block _ rs.lt) | replace rs := rs.below hbn
          refine hK _ _ ⟨fun _ => ⟨_, ov_of hX⟩, ?_⟩
          clear hK K
          try simp only [List.getElem_toArray, List.getElem_cons_zero, List.getElem_cons_succ]
          simp only [Act.put, List.setIfInBounds_toArray, List.set_cons_zero, List.set_cons_succ]
          refine anyX_take 4 rfl (by kernel_rfl) ⟨_, ov_of hX⟩ ?_
          intro K hK
          try simp only [List.getElem_toArray, List.getElem_cons_zero, List.getElem_cons_succ]
          (first | (refine quiet_loadAny (t := 30) rfl _ _ _ rfl (fun w hw => run_load_B (ov_B r3B w hw) Try.isAgg30 (by kernel_rfl)) (by rfl) ?_; simp only [Act.put, List.setIfInBounds_toArray, List.set_cons_zero, List.set_cons_succ]; go_big_quiet_on) | (refine quiet_loadPx rfl _ rfl (ov_px q5B) ?_; simp only [Act.put, List.setIfInBounds_toArray, List.set_cons_zero, List.set_cons_succ]; go_big_quiet_on) | (go_big_quiet_op; go_big_quiet_on))
          simp only [Act.put, List.setIfInBounds_toArray, List.set_cons_zero, List.set_cons_succ]
          refine anyX_next 8 rfl (by kernel_rfl) rfl (fun K hK => ?_)
          try simp only [List.getElem_toArray, List.getElem_cons_zero, List.getElem_cons_succ]
          go_simp
          go_at_call 61
          refine (R_pickB _ L (n + 1) _ (by omega) _ (HL.out.below B) hn).mono ?_
          rintro e wn ⟨rfl, hbn⟩
          have hsz := B.size
          have hzn := hbn.size
          have hsx := hX.size
          replace B := B.trans (hbn.mono B.size)
          replace hX := hX.trans (hbn.mono hX.size)
          try first | replace r2 := r2.of_eq (hbn.block _ r2.lt) | replace r2 := r2.below hbn
          try first | replace r3 := r3.of_eq (hbn.block _ r3.lt) | replace r3 := r3.below hbn
          try first | replace q5 := q5.of_eq (hbn.block _ q5.lt) | replace q5 := q5.below hbn
          try first | replace g6 := g6.of_eq (hbn.block _ g6.lt) | replace g6 := g6.below hbn
          try first | replace rs := rs.of_eq (hbn.block _ rs.lt) | replace rs := rs.below hbn
          refine hK _ _ ⟨fun _ => ⟨_, ov_of hX⟩, ?_⟩
          clear hK K
          try simp only [List.getElem_toArray, List.getElem_cons_zero, List.getElem_cons_succ]
          simp only [Act.put, List.setIfInBounds_toArray, List.set_cons_zero, List.set_cons_succ]
          refine anyX_take 9 rfl (by kernel_rfl) ⟨_, ov_of hX⟩ ?_
          intro K hK
          try simp only [List.getElem_toArray, List.getElem_cons_zero, List.getElem_cons_succ]
          (first | (refine quiet_loadAny (t := 30) rfl _ _ _ rfl (fun w hw => run_load_B (ov_B r3B w hw) Try.isAgg30 (by kernel_rfl)) (by rfl) ?_; simp only [Act.put, List.setIfInBounds_toArray, List.set_cons_zero, List.set_cons_succ]; go_big_quiet_on) | (refine quiet_loadPx rfl _ rfl (ov_px q5B) ?_; simp only [Act.put, List.setIfInBounds_toArray, List.set_cons_zero, List.set_cons_succ]; go_big_quiet_on) | (go_big_quiet_op; go_big_quiet_on))
          simp only [Act.put, List.setIfInBounds_toArray, List.set_cons_zero, List.set_cons_succ]
          refine anyX_next 11 rfl (by kernel_rfl) rfl (fun K hK => ?_)
          try simp only [List.getElem_toArray, List.getElem_cons_zero, List.getElem_cons_succ]
          go_simp
          go_at_call 27
          refine (R_SetR _ (madeK L k) x y _ _ rs (madeK_tok L k) (by unfold maxLen; omega) wx wy (madeP_ok _)).mono ?_
          rintro e wn ⟨v1, rfl, rs1, hbn⟩
          obtain ⟨a1, c1, rfl, hc1⟩ := rs1.len
          have hsz := B.size
          have hzn := hbn.size
          have hsx := hX.size
          replace B := B.trans (hbn.mono B.size)
          replace hX := hX.trans (hbn.mono hX.size)
          try first | replace r2 := r2.of_eq (hbn.block _ r2.lt) | replace r2 := r2.below hbn
          try first | replace r3 := r3.of_eq (hbn.block _ r3.lt) | replace r3 := r3.below hbn
          try first | replace q5 := q5.of_eq (hbn.block _ q5.lt) | replace q5 := q5.below hbn
          try first | replace g6 := g6.of_eq (hbn.block _ g6.lt) | replace g6 := g6.below hbn
          refine hK _ _ ⟨fun _ => ⟨_, ov_of hX⟩, ?_⟩
          clear hK K
          try simp only [List.getElem_toArray, List.getElem_cons_zero, List.getElem_cons_succ]
          simp only [Act.put, List.setIfInBounds_toArray, List.set_cons_zero, List.set_cons_succ]
          refine anyX_seq (by kernel_rfl) (by kernel_rfl) ?_
          simp only [List.drop_succ_cons, List.drop_zero]
          go_wp2_with (first | (refine wpList_storeB (t := 50) rfl _ _ rfl _ rfl _ rfl g6 (by kernel_rfl) rfl (by simp [Value.oneCell']) ?_; have g6o := g6; clear g6; intro wn ht hcn hzn; replace rs1 := rs1.chg g6o (by simp) hcn; have hsz := B.size; replace hzn := Nat.le_of_eq hzn.symm; replace B := Chg.below B hcn (by omega) B.size; (try replace r2 := r2.of_eq (hcn.block _ r2.lt (by omega))); (try replace r3 := r3.of_eq (hcn.block _ r3.lt (by omega))); (try replace q5 := q5.of_eq (hcn.block _ q5.lt (by omega))); have g6 := ht; clear ht; simp only [Act.put, List.setIfInBounds_toArray, List.set_cons_zero, List.set_cons_succ]) | fail)
          refine NoPan.normal ?_
          go_wp2_with fail
          go_meet
          exact ⟨b_g6, a1, c1, _, rfl, by rw [E.out]; exact g6, by rw [E.out]; exact rs1, B, r2, r3⟩
      case rest =>
        obtain ⟨b_g6, a1, c1, e1, rfl, g6, rs1, B, r2, r3⟩ := hcut
        go_wp2_with (first | (refine wpList_storeB (t := 30) rfl _ _ rfl _ rfl _ rfl r3 (by kernel_rfl) rfl (by simp [Value.oneCell']) ?_; have r3o := r3; clear r3; intro wn ht hcn hzn; replace rs1 := rs1.chg r3o (by simp) hcn; have hsz := B.size; replace hzn := Nat.le_of_eq hzn.symm; replace B := Chg.below B hcn (by omega) B.size; (try replace r2 := r2.of_eq (hcn.block _ r2.lt (by omega))); (try replace q5 := q5.of_eq (hcn.block _ q5.lt (by omega))); (try replace g6 := g6.of_eq (hcn.block _ g6.lt (by omega))); have r3 := ht; clear ht; simp only [Act.put, List.setIfInBounds_toArray, List.set_cons_zero, List.set_cons_succ]) | (refine wpList_loadAny (t := 30) rfl _ rfl _ _ _ rfl (run_load_ras (g6.cell 0 rfl)) (by rfl) ?_; simp only [Act.put, List.setIfInBounds_toArray, List.set_cons_zero, List.set_cons_succ]) | fail)
        go_roundw
        case rel => exact ⟨k + 1, n + 3, a1, c1, by have := HN.out; omega, by omega, by go_num, B, r2, r3, rs1⟩
        case measure => simp [intOf]; omega
    · have E := Lib.hid (show madeK L k = madeL L from by
        unfold madeL
        by_cases hk40 : k = 40
        · rw [hk40]
        · have := madeK_stop L k (by omega) (40 - k)
          rw [show k + (40 - k) = 40 by omega] at this
          exact this.symm)
      have hnb : n ≤ 120 := by omega
      clear hn3
      by_cases hix : n + 2 < L.length
      · have d1 : decide ((n : Int) + 2 < (L.length : Int)) = true := decide_eq_true (by omega)
        have d2 : decide ((n : Int) < 120) = false := decide_eq_false (by omega)
        clear hq
        go_wp2_with (first | (refine wpList_storeB (t := 30) rfl _ _ rfl _ rfl _ rfl r2 (by kernel_rfl) rfl (by simp [Value.oneCell']) ?_; have r2o := r2; clear r2; intro wn ht hcn hzn; replace rs := rs.chg r2o (by simp) hcn; have hsz := B.size; replace hzn := Nat.le_of_eq hzn.symm; replace B := Chg.below B hcn (by omega) B.size; (try replace r3 := r3.of_eq (hcn.block _ r3.lt (by omega))); (try replace q5 := q5.of_eq (hcn.block _ q5.lt (by omega))); (try replace g6 := g6.of_eq (hcn.block _ g6.lt (by omega))); have r2 := ht; clear ht; simp only [Act.put, List.setIfInBounds_toArray, List.set_cons_zero, List.set_cons_succ]) | (refine wpList_loadAny (t := 30) rfl _ rfl _ _ _ rfl (run_load_B r3 Try.isAgg30 (by kernel_rfl)) (by rfl) ?_; simp only [Act.put, List.setIfInBounds_toArray, List.set_cons_zero, List.set_cons_succ]) | fail)
        refine bodyPost_ret (results_B (t := 30) rfl _ _ (b_r2) rfl r2 Try.isAgg30 (by kernel_rfl)) rfl ?_
        exact ⟨_, rfl, by rw [← E.out]; exact rs, B⟩
      · have d1 : decide ((n : Int) + 2 < (L.length : Int)) = false := decide_eq_false (by omega)
        clear hq
        go_wp2_with (first | (refine wpList_storeB (t := 30) rfl _ _ rfl _ rfl _ rfl r2 (by kernel_rfl) rfl (by simp [Value.oneCell']) ?_; have r2o := r2; clear r2; intro wn ht hcn hzn; replace rs := rs.chg r2o (by simp) hcn; have hsz := B.size; replace hzn := Nat.le_of_eq hzn.symm; replace B := Chg.below B hcn (by omega) B.size; (try replace r3 := r3.of_eq (hcn.block _ r3.lt (by omega))); (try replace q5 := q5.of_eq (hcn.block _ q5.lt (by omega))); (try replace g6 := g6.of_eq (hcn.block _ g6.lt (by omega))); have r2 := ht; clear ht; simp only [Act.put, List.setIfInBounds_toArray, List.set_cons_zero, List.set_cons_succ]) | (refine wpList_loadAny (t := 30) rfl _ rfl _ _ _ rfl (run_load_B r3 Try.isAgg30 (by kernel_rfl)) (by rfl) ?_; simp only [Act.put, List.setIfInBounds_toArray, List.set_cons_zero, List.set_cons_succ]) | fail)
        refine bodyPost_ret (results_B (t := 30) rfl _ _ (b_r2) rfl r2 Try.isAgg30 (by kernel_rfl)) rfl ?_
        exact ⟨_, rfl, by rw [← E.out]; exact rs, B⟩
end Go.Proofs.Ytppccnjckiedlaa
