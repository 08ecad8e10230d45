/- Contracts of cmp.isNaN, Compare, Or at int; of order, within of package raster; of less, within of its reference. -/
import Derived.Test.YtppccnjckiedlaaRf
import Derived.Test.YtppccnjckiedlaaAe
namespace Go.Proofs.Ytppccnjckiedlaa
open Go.RowKit Pl
set_option linter.unusedVariables false
set_option linter.unusedSimpArgs false
set_option maxRecDepth 20000

def cmpI (x y : Int) : Int := if x < y then -1 else if y < x then 1 else 0
def orI (x y : Int) : Int := if x = 0 then y else x
theorem orI_zero {x y : Int} (h : x = 0) : orI x y = y := if_pos h
theorem orI_ne {x y : Int} (h : ¬ x = 0) : orI x y = x := if_neg h
def ordI (ax ay bx bv : Int) : Int := orI (cmpI ay bv) (cmpI ax bx)
theorem ordI_neg (ax ay bx bv : Int) : decide (ordI ax ay bx bv < 0) = lessB ax ay bx bv := by
  unfold ordI orI cmpI lessB
  rw [Bool.eq_iff_iff, decide_eq_true_iff, decide_eq_true_iff]
  split <;> rename_i h <;> repeat' split
  all_goals (repeat' split at h)
  all_goals omega
theorem ordI_eq (ax ay bx bv : Int) : decide (ordI ax ay bx bv = 0) = eqB ax ay bx bv := by
  unfold ordI orI cmpI eqB
  rw [Bool.eq_iff_iff, decide_eq_true_iff, decide_eq_true_iff]
  split <;> rename_i h <;> repeat' split
  all_goals (repeat' split at h)
  all_goals omega
theorem ordI_ge (ax ay bx bv : Int) : decide (0 ≤ ordI ax ay bx bv) = !lessB ax ay bx bv := by
  rw [← ordI_neg, Bool.eq_iff_iff]
  simp
theorem cmpI_bd (x y : Int) : -1 ≤ cmpI x y ∧ cmpI x y ≤ 1 := by
  unfold cmpI
  repeat' split
  all_goals omega
theorem ordI_bd (ax ay bx bv : Int) : -1 ≤ ordI ax ay bx bv ∧ ordI ax ay bx bv ≤ 1 := by
  unfold ordI orI
  split
  · exact cmpI_bd _ _
  · exact cmpI_bd _ _

theorem P_isNaN (x : Int) (w : World) : Calls Try.prog 111 #[.int .i64 x] w fun e w' => e = .returned (.bool false) ∧ w = w' := by
  go_enter Try.func111, Try.ntmps111
  go_wp2
  go_ret
  exact ⟨rfl, rfl⟩
theorem P_Compare (x y : Int) (w : World) : Calls Try.prog 101 #[.int .i64 x, .int .i64 y] w fun e w' => e = .returned (.int .i64 (cmpI x y)) ∧ w = w' := by
  by_cases h1 : x < y
  · rw [show cmpI x y = -1 from if_pos h1]
    go_enter Try.func101, Try.ntmps101
    go_wp2_with ((go_at_call 111; refine (P_isNaN _ _).mono ?_; rintro e w' ⟨rfl, rfl⟩))
    go_ret
    exact ⟨rfl, rfl⟩
  · by_cases h2 : y < x
    · rw [show cmpI x y = 1 from by unfold cmpI; rw [if_neg h1, if_pos h2]]
      go_enter Try.func101, Try.ntmps101
      go_wp2_with ((go_at_call 111; refine (P_isNaN _ _).mono ?_; rintro e w' ⟨rfl, rfl⟩))
      go_ret
      exact ⟨rfl, rfl⟩
    · rw [show cmpI x y = 0 from by unfold cmpI; rw [if_neg h1, if_neg h2]]
      go_enter Try.func101, Try.ntmps101
      go_wp2_with ((go_at_call 111; refine (P_isNaN _ _).mono ?_; rintro e w' ⟨rfl, rfl⟩))
      go_ret
      exact ⟨rfl, rfl⟩
theorem P_Or2 (x y : Int) (b : Nat) (w : World) (h : AtB 3 w b #[.int .i64 x, .int .i64 y]) : Calls Try.prog 100 #[.slice (some ⟨b, 0, none⟩) 2 2] w fun e w' => e = .returned (.int .i64 (orI x y)) ∧ w = w' := by
  have c0 := h.cell 0 rfl
  have c1 := h.cell 1 rfl
  clear h
  go_enter Try.func100, Try.ntmps100
  go_wp2
  go_loopw [8] (fun i wr => ∃ k : Nat, k ≤ 2 ∧ i = .int .i64 k ∧ wr = w ∧ (1 ≤ k → x = 0) ∧ (2 ≤ k → y = 0)) (fun i _ => (2 - intOf i).toNat)
  case atStart => exact ⟨0, by omega, rfl, rfl, by omega, by omega⟩
  case round =>
    obtain ⟨k, hk, rfl, rfl, h1, h2⟩ := hrel
    have hc : k = 0 ∨ k = 1 ∨ k = 2 := by omega
    rcases hc with rfl | rfl | rfl
    · clear h1 h2
      by_cases hx : x = 0
      · have e1 : (x == 0) = true := by simpa using hx
        have e2 : (x != 0) = false := by simpa using hx
        have H := Lib.hid hx
        clear hx
        go_wp2
        go_roundw
        case rel => exact ⟨1, by omega, rfl, by simp, fun _ => H.out, by omega⟩
        case measure => simp [intOf]
      · have e1 : (x == 0) = false := by simpa using hx
        have e2 : (x != 0) = true := by simpa using hx
        have H := Lib.hid hx
        clear hx
        go_wp2
        go_ret
        exact ⟨by rw [orI_ne H.out]; rfl, rfl⟩
    · have H1 := Lib.hid (h1 (by omega))
      clear h1 h2
      by_cases hx : y = 0
      · have e1 : (y == 0) = true := by simpa using hx
        have e2 : (y != 0) = false := by simpa using hx
        have H := Lib.hid hx
        clear hx
        go_wp2
        go_roundw
        case rel => exact ⟨2, by omega, rfl, by simp, fun _ => H1.out, fun _ => H.out⟩
        case measure => simp [intOf]
      · have e1 : (y == 0) = false := by simpa using hx
        have e2 : (y != 0) = true := by simpa using hx
        have H := Lib.hid hx
        clear hx
        go_wp2
        go_ret
        exact ⟨by rw [orI_zero H1.out]; rfl, rfl⟩
    · have H1 := Lib.hid (h1 (by omega))
      have H2 := Lib.hid (h2 (by omega))
      clear h1 h2
      go_wp2
      go_ret
      exact ⟨by rw [orI_zero H1.out, H2.out]; rfl, rfl⟩
theorem run_bsI2 (w : World) (o : Oper) (x y : Operand) (ho : o.op = .buildSlice 22 2 #[(0, x), (1, y)]) (ev : Operand → Value) (p q : Int) (hx : ev x = .int .i64 p) (hy : ev y = .int .i64 q) : (execOp ev o).run Try.prog w = .ok (.value (.slice (some ⟨w.heap.size, 0, none⟩) 2 2)) (w.alloc (.cells #[.int .i64 p, .int .i64 q] 3)) := by
  obtain ⟨d, po, t, ps, af, gd⟩ := o
  simp only at ho
  subst ho
  unfold execOp
  simp only [List.map_toArray, List.map_cons, List.map_nil, hx, hy]
  kernel_rfl
theorem wpList_bsI2 {ops : Array Oper} {rest : List Oper} {o : Oper} {a : Act} {w : World} {Q : Exit → Act → World → Prop} (hg : o.guard = none) (x y : Operand) (ho : o.op = .buildSlice 22 2 #[(0, x), (1, y)]) (p q : Int) (hx : a.eval x = .int .i64 p) (hy : a.eval y = .int .i64 q)
    (h : ∀ b w', w.heap.size ≤ b → b ≤ w.heap.size → AtB 3 w' b #[.int .i64 p, .int .i64 q] → Below b w w' → w'.heap.size = b + 1 → wpList Try.prog ops Q rest (a.put o.dst (.slice (some ⟨b, 0, none⟩) 2 2)) w') : wpList Try.prog ops Q (o :: rest) a w :=
  wpList_plain hg fun K hK => by
    unfold Oper.wp
    rw [run_bsI2 w o x y ho _ p q hx hy]
    exact hK _ _ (h _ _ (Nat.le_refl _) (Nat.le_refl _) (by unfold AtB; rw [heap_get_alloc, if_pos rfl]) ((Below.refl _ _).alloc (Nat.le_refl _) _) (World.size_alloc _ _))
theorem P_order (ax ay bx bv : Int) (w : World) : Calls Try.prog 55 #[Ps.v ax ay, Ps.v bx bv] w fun e w' => e = .returned (.int .i64 (ordI ax ay bx bv)) ∧ Below w.heap.size w w' := by
  have B := Below.refl w.heap.size w
  simp only [Ps.v]
  go_enter Try.func55, Try.ntmps55
  go_wp2_with (first | (have _ := p1; refine wpList_boxB (t := 24) rfl _ rfl _ rfl ?_; intro b_p2 wn hle hge ht hbn hzn; have hsz := B.size; replace B := B.trans (hbn.mono (by omega)); have hln := Nat.lt_of_lt_of_eq (Nat.lt_succ_self _) hzn.symm; clear hzn; (try first | (have hlt := p1.lt; replace p1 := p1.of_eq (hbn.block _ (by omega))) | replace p1 := p1.below (hbn.mono hle)); (try first | (have hlt := p2.lt; replace p2 := p2.of_eq (hbn.block _ (by omega))) | replace p2 := p2.below (hbn.mono hle)); (try first | (have hlt := bs.lt; replace bs := bs.of_eq (hbn.block _ (by omega))) | replace bs := bs.below (hbn.mono hle)); have p2 := ht; clear ht; simp only [Act.put, List.setIfInBounds_toArray, List.set_cons_zero, List.set_cons_succ]) | (refine wpList_boxB (t := 24) rfl _ rfl _ rfl ?_; intro b_p1 wn hle hge ht hbn hzn; have hsz := B.size; replace B := B.trans (hbn.mono (by omega)); have hln := Nat.lt_of_lt_of_eq (Nat.lt_succ_self _) hzn.symm; clear hzn; (try first | (have hlt := p1.lt; replace p1 := p1.of_eq (hbn.block _ (by omega))) | replace p1 := p1.below (hbn.mono hle)); (try first | (have hlt := p2.lt; replace p2 := p2.of_eq (hbn.block _ (by omega))) | replace p2 := p2.below (hbn.mono hle)); (try first | (have hlt := bs.lt; replace bs := bs.of_eq (hbn.block _ (by omega))) | replace bs := bs.below (hbn.mono hle)); have p1 := ht; clear ht; simp only [Act.put, List.setIfInBounds_toArray, List.set_cons_zero, List.set_cons_succ]) | fail)
  refine wp_region_ov_tail 10 (by kernel_rfl) (by kernel_rfl) ?_
  simp only [List.take_succ_cons, List.take_zero, List.drop_succ_cons, List.drop_zero]
  repeat (first | go_big_quiet_skip | (go_big_quiet_want; first | (refine quiet_loadAny (t := 3) rfl _ _ _ rfl (fun w hw => run_load_int ((ov_B p1 w hw).cell 0 rfl)) (by rfl) ?_; simp only [Act.put, List.setIfInBounds_toArray, List.set_cons_zero, List.set_cons_succ]; go_big_quiet_on) | (refine quiet_loadAny (t := 3) rfl _ _ _ rfl (fun w hw => run_load_int ((ov_B p1 w hw).cell 1 rfl)) (by rfl) ?_; simp only [Act.put, List.setIfInBounds_toArray, List.set_cons_zero, List.set_cons_succ]; go_big_quiet_on) | (refine quiet_loadAny (t := 3) rfl _ _ _ rfl (fun w hw => run_load_int ((ov_B p2 w hw).cell 0 rfl)) (by rfl) ?_; simp only [Act.put, List.setIfInBounds_toArray, List.set_cons_zero, List.set_cons_succ]; go_big_quiet_on) | (refine quiet_loadAny (t := 3) rfl _ _ _ rfl (fun w hw => run_load_int ((ov_B p2 w hw).cell 1 rfl)) (by rfl) ?_; simp only [Act.put, List.setIfInBounds_toArray, List.set_cons_zero, List.set_cons_succ]; go_big_quiet_on) | (go_big_quiet_op; first | go_big_quiet_on | go_big_quiet_call ((first | (go_at_call 101; exact calls_ov_same (P_Compare _ _ _)))))))
  refine wpQuiet_nil ?_
  intro wn hbn
  have hsz := B.size
  have hzn := hbn.size
  replace B := B.trans (hbn.mono B.size)
  try first | replace p1 := p1.of_eq (hbn.block _ p1.lt) | replace p1 := p1.below hbn
  try first | replace p2 := p2.of_eq (hbn.block _ p2.lt) | replace p2 := p2.below hbn
  try first | replace bs := bs.of_eq (hbn.block _ bs.lt) | replace bs := bs.below hbn
  go_wp2_with (first | (refine wpList_bsI2 rfl _ _ rfl _ _ rfl rfl ?_; intro b_bs wn hle hge ht hbn hzn; have hsz := B.size; replace B := B.trans (hbn.mono (by omega)); have hln := Nat.lt_of_lt_of_eq (Nat.lt_succ_self _) hzn.symm; clear hzn; (try first | (have hlt := p1.lt; replace p1 := p1.of_eq (hbn.block _ (by omega))) | replace p1 := p1.below (hbn.mono hle)); (try first | (have hlt := p2.lt; replace p2 := p2.of_eq (hbn.block _ (by omega))) | replace p2 := p2.below (hbn.mono hle)); (try first | (have hlt := bs.lt; replace bs := bs.of_eq (hbn.block _ (by omega))) | replace bs := bs.below (hbn.mono hle)); have bs := ht; clear ht; simp only [Act.put, List.setIfInBounds_toArray, List.set_cons_zero, List.set_cons_succ]) | (go_at_call 100; refine (P_Or2 _ _ _ _ bs).mono ?_; rintro e wq ⟨rfl, rfl⟩) | fail)
  go_ret
  exact ⟨rfl, B⟩

theorem P_within (x y : Int) (w : World) : Calls Try.prog 52 #[Ps.v x y] w fun e w' => e = .returned (.bool (withinB x y)) ∧ Below w.heap.size w w' := by
  simp only [Ps.v]
  by_cases h0 : -8192 ≤ x
  · by_cases h1 : x ≤ 8191
    · by_cases h2 : -8192 ≤ y
      · by_cases h3 : y ≤ 8191
        · rw [show withinB x y = true from by unfold withinB; exact decide_eq_true (by omega)]
          have d0 : decide (-8192 ≤ x) = true := decide_eq_true h0
          have d1 : decide (x ≤ 8191) = true := decide_eq_true h1
          have d2 : decide (-8192 ≤ y) = true := decide_eq_true h2
          have d3 : decide (y ≤ 8191) = true := decide_eq_true h3
          go_enter Try.func52, Try.ntmps52
          go_wp2
          go_ret
          exact ⟨rfl, by go_grown⟩
        · rw [show withinB x y = false from by unfold withinB; exact decide_eq_false (by omega)]
          have d0 : decide (-8192 ≤ x) = true := decide_eq_true h0
          have d1 : decide (x ≤ 8191) = true := decide_eq_true h1
          have d2 : decide (-8192 ≤ y) = true := decide_eq_true h2
          have d3 : decide (y ≤ 8191) = false := decide_eq_false h3
          go_enter Try.func52, Try.ntmps52
          go_wp2
          go_ret
          exact ⟨rfl, by go_grown⟩
      · rw [show withinB x y = false from by unfold withinB; exact decide_eq_false (by omega)]
        have d0 : decide (-8192 ≤ x) = true := decide_eq_true h0
        have d1 : decide (x ≤ 8191) = true := decide_eq_true h1
        have d2 : decide (-8192 ≤ y) = false := decide_eq_false h2
        go_enter Try.func52, Try.ntmps52
        go_wp2
        go_ret
        exact ⟨rfl, by go_grown⟩
    · rw [show withinB x y = false from by unfold withinB; exact decide_eq_false (by omega)]
      have d0 : decide (-8192 ≤ x) = true := decide_eq_true h0
      have d1 : decide (x ≤ 8191) = false := decide_eq_false h1
      go_enter Try.func52, Try.ntmps52
      go_wp2
      go_ret
      exact ⟨rfl, by go_grown⟩
  · rw [show withinB x y = false from by unfold withinB; exact decide_eq_false (by omega)]
    have d0 : decide (-8192 ≤ x) = false := decide_eq_false h0
    go_enter Try.func52, Try.ntmps52
    go_wp2
    go_ret
    exact ⟨rfl, by go_grown⟩
theorem R_within (x y : Int) (w : World) : Calls Try.prog 59 #[Ps.v x y] w fun e w' => e = .returned (.bool (withinB x y)) ∧ Below w.heap.size w w' := by
  simp only [Ps.v]
  by_cases h0 : -8192 ≤ x
  · by_cases h1 : x ≤ 8191
    · by_cases h2 : -8192 ≤ y
      · by_cases h3 : y ≤ 8191
        · rw [show withinB x y = true from by unfold withinB; exact decide_eq_true (by omega)]
          have d0 : decide (-8192 ≤ x) = true := decide_eq_true h0
          have d1 : decide (x ≤ 8191) = true := decide_eq_true h1
          have d2 : decide (-8192 ≤ y) = true := decide_eq_true h2
          have d3 : decide (y ≤ 8191) = true := decide_eq_true h3
          go_enter Try.func59, Try.ntmps59
          go_wp2
          go_ret
          exact ⟨rfl, by go_grown⟩
        · rw [show withinB x y = false from by unfold withinB; exact decide_eq_false (by omega)]
          have d0 : decide (-8192 ≤ x) = true := decide_eq_true h0
          have d1 : decide (x ≤ 8191) = true := decide_eq_true h1
          have d2 : decide (-8192 ≤ y) = true := decide_eq_true h2
          have d3 : decide (y ≤ 8191) = false := decide_eq_false h3
          go_enter Try.func59, Try.ntmps59
          go_wp2
          go_ret
          exact ⟨rfl, by go_grown⟩
      · rw [show withinB x y = false from by unfold withinB; exact decide_eq_false (by omega)]
        have d0 : decide (-8192 ≤ x) = true := decide_eq_true h0
        have d1 : decide (x ≤ 8191) = true := decide_eq_true h1
        have d2 : decide (-8192 ≤ y) = false := decide_eq_false h2
        go_enter Try.func59, Try.ntmps59
        go_wp2
        go_ret
        exact ⟨rfl, by go_grown⟩
    · rw [show withinB x y = false from by unfold withinB; exact decide_eq_false (by omega)]
      have d0 : decide (-8192 ≤ x) = true := decide_eq_true h0
      have d1 : decide (x ≤ 8191) = false := decide_eq_false h1
      go_enter Try.func59, Try.ntmps59
      go_wp2
      go_ret
      exact ⟨rfl, by go_grown⟩
  · rw [show withinB x y = false from by unfold withinB; exact decide_eq_false (by omega)]
    have d0 : decide (-8192 ≤ x) = false := decide_eq_false h0
    go_enter Try.func59, Try.ntmps59
    go_wp2
    go_ret
    exact ⟨rfl, by go_grown⟩
theorem R_less (ax ay bx bv : Int) (w : World) : Calls Try.prog 60 #[Ps.v ax ay, Ps.v bx bv] w fun e w' => e = .returned (.bool (lessB ax ay bx bv)) ∧ Below w.heap.size w w' := by
  simp only [Ps.v]
  by_cases h1 : ay < bv
  · rw [show lessB ax ay bx bv = true from decide_eq_true (Or.inl h1)]
    have d1 : decide (ay < bv) = true := decide_eq_true h1
    go_enter Try.func60, Try.ntmps60
    go_wp2
    go_ret
    exact ⟨rfl, by go_grown⟩
  · have d1 : decide (ay < bv) = false := decide_eq_false h1
    by_cases h2 : ay = bv
    · subst h2
      by_cases h3 : ax < bx
      · rw [show lessB ax ay bx ay = true from decide_eq_true (Or.inr ⟨rfl, h3⟩)]
        have d3 : decide (ax < bx) = true := decide_eq_true h3
        go_enter Try.func60, Try.ntmps60
        go_wp2
        go_ret
        exact ⟨rfl, by go_grown⟩
      · rw [show lessB ax ay bx ay = false from decide_eq_false (by omega)]
        have d3 : decide (ax < bx) = false := decide_eq_false h3
        go_enter Try.func60, Try.ntmps60
        go_wp2
        go_ret
        exact ⟨rfl, by go_grown⟩
    · rw [show lessB ax ay bx bv = false from decide_eq_false (by omega)]
      have d2 : (ay == bv) = false := by simpa using h2
      go_enter Try.func60, Try.ntmps60
      go_wp2
      go_ret
      exact ⟨rfl, by go_grown⟩
end Go.Proofs.Ytppccnjckiedlaa
