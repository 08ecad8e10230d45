/- Contracts of Tile and Get of package raster and of its reference; '&' with a mask; '==' of positions. -/
import Derived.Test.YtppccnjckiedlaaRh
import Derived.Test.YtppccnjckiedlaaTk
import Derived.Shelf.Abstract
namespace Go.Proofs.Ytppccnjckiedlaa
open Go.RowKit Go.Shelf Pl
set_option linter.unusedVariables false
set_option linter.unusedSimpArgs false
set_option maxRecDepth 20000

/-- '&' with 2^n - 1. -/
theorem bits_mask (x : Int) (n : Nat) (m : Nat) (hm : m = 2 ^ n - 1) (hn : n ≤ 32) : bits .and .i64 x (m : Int) = x % (((m + 1 : Nat)) : Int) := by
  have e : bits .and .i64 x (m : Int) = IntKind.i64.wrap ((BitVec.ofInt 64 x &&& BitVec.ofInt 64 (m : Int)).toNat : Int) := rfl
  have h1 : (2 : Nat) ^ n ≤ 2 ^ 32 := Nat.pow_le_pow_right (by omega) hn
  have h0 : 1 ≤ (2 : Nat) ^ n := Nat.one_le_two_pow
  have hm1 : m + 1 = 2 ^ n := by omega
  have hml : m < 2 ^ 32 := by omega
  have e2 : (BitVec.ofInt 64 (m : Int)).toNat = m := by
    rw [BitVec.toNat_ofInt]
    have h3 : (2 : Nat) ^ 32 = 4294967296 := rfl
    have h4 : ((2 : Nat) ^ 64 : Nat) = 18446744073709551616 := rfl
    rw [h4]
    omega
  have e3 : (BitVec.ofInt 64 x &&& BitVec.ofInt 64 (m : Int)).toNat = (BitVec.ofInt 64 x).toNat % 2 ^ n := by
    rw [BitVec.toNat_and, e2, hm, Nat.and_two_pow_sub_one_eq_mod]
  have e4 : (((BitVec.ofInt 64 x).toNat % 2 ^ n : Nat) : Int) = x % ((2 ^ n : Nat) : Int) := by
    rw [BitVec.toNat_ofInt]
    have hd : ((2 ^ n : Nat) : Int) ∣ ((2 ^ 64 : Nat) : Int) := by
      refine Int.natCast_dvd_natCast.2 ?_
      exact Nat.pow_dvd_pow 2 (by omega)
    have hpos : (0 : Int) < ((2 ^ 64 : Nat) : Int) := by
      have : (0 : Nat) < 2 ^ 64 := by decide
      omega
    have hnn : 0 ≤ x % ((2 ^ 64 : Nat) : Int) := Int.emod_nonneg _ (by omega)
    rw [Int.natCast_emod, Int.toNat_of_nonneg hnn, Int.emod_emod_of_dvd _ hd]
  have hkl : (BitVec.ofInt 64 x).toNat % 2 ^ n < 2 ^ n := Nat.mod_lt _ (by omega)
  rw [e, e3, IntKind.wrap_i64, hm1, ← e4]
  have h3 : (2 : Nat) ^ 32 = 4294967296 := rfl
  rw [h3] at h1
  generalize (BitVec.ofInt 64 x).toNat % 2 ^ n = z at hkl ⊢
  generalize (2 : Nat) ^ n = y at *
  omega
theorem bits_and3 (x : Int) : bits .and .i64 x 3 = x % 4 := bits_mask x 2 3 rfl (by decide)
theorem bits_and7 (x : Int) : bits .and .i64 x 7 = x % 8 := bits_mask x 3 7 rfl (by decide)
theorem bits_and31 (x : Int) : bits .and .i64 x 31 = x % 32 := bits_mask x 5 31 rfl (by decide)
theorem bits_and63 (x : Int) : bits .and .i64 x 63 = x % 64 := bits_mask x 6 63 rfl (by decide)
theorem bits_and65535 (x : Int) : bits .and .i64 x 65535 = x % 65536 := bits_mask x 16 65535 rfl (by decide)
theorem bits_and1048575 (x : Int) : bits .and .i64 x 1048575 = x % 1048576 := bits_mask x 20 1048575 rfl (by decide)

/-! ### '==' of positions -/
theorem equalIn_pos (d : Nat) (x y x' y' : Int) (w : World) : (Op.equalIn (d + 2) 24 (Ps.v x y) (Ps.v x' y')).run Try.prog w = .ok (eqB x y x' y') w := by
  have h : (Op.equalIn (d + 2) 24 (Ps.v x y) (Ps.v x' y')).run Try.prog w = .ok (x == x' && y == y') w := by
    simp only [Ps.v]
    by_cases h1 : x = x' <;> by_cases h2 : y = y' <;> simp [go_sem, h1, h2]
  rw [h]
  congr 1
  unfold eqB
  rw [Bool.eq_iff_iff]
  simp
theorem eql_pos (x y x' y' : Int) (w : World) : (binOp .eql 24 (Ps.v x y) (Ps.v x' y')).run Try.prog w = .ok (.bool (eqB x y x' y')) w := by
  have h := run_eql_struct (P := Try.prog) w 24 #[.int .i64 x, .int .i64 y] #[.int .i64 x', .int .i64 y']
  have e := equalIn_pos 9998 x y x' y' w
  unfold Ps.v at e ⊢
  rw [h, e]; rfl
theorem neq_pos (x y x' y' : Int) (w : World) : (binOp .neq 24 (Ps.v x y) (Ps.v x' y')).run Try.prog w = .ok (.bool (!eqB x y x' y')) w := by
  have h := run_neq_struct (P := Try.prog) w 24 #[.int .i64 x, .int .i64 y] #[.int .i64 x', .int .i64 y']
  have e := equalIn_pos 9998 x y x' y' w
  unfold Ps.v at e ⊢
  rw [h, e]; rfl
@[go_sem] theorem guard_pos (op : BinOp) (p q : Operand) (x y x' y' : Int) (w : World) : (eqGuard op 24 p q (Ps.v x y) (Ps.v x' y')).run Try.prog w = .ok () w := run_eqGuard_agg w op 24 p q _ _ (by kernel_rfl)
@[go_sem] theorem guard_pos1 (op : BinOp) (p q : Operand) (x y : Int) (cs : Array Value) (w : World) : (eqGuard op 24 p q (Ps.v x y) (.agg cs)).run Try.prog w = .ok () w := run_eqGuard_agg w op 24 p q _ _ (by kernel_rfl)
theorem ov_rs {v : Value} {ls : List TA} {w : World} (h : RS v ls w) : ∀ w', (∃ u, w' = ov w u) → RS v ls w' := by
  rintro w' ⟨u, rfl⟩
  exact h.below (ov_below w u)

/-! ### Tile -/
theorem P_Tile1 (e : TA) (x y : Int) (b : Nat) (w : World) (p1 : AtB 24 w b #[.int .i64 x, .int .i64 y]) : Calls Try.prog 67 #[.agg (taC e), .pointer (some ⟨b, 0, none⟩)] w fun e' w' => e' = .returned (.bool (eqB e.x e.y x y)) ∧ Below w.heap.size w w' := by
  have B := Below.refl w.heap.size w
  have hb0 := p1.lt
  have heq : ∀ w, (binOp .eql 24 (Ps.v e.x e.y) (.agg #[.int .i64 x, .int .i64 y])).run Try.prog w = .ok (.bool (eqB e.x e.y x y)) w := fun w => eql_pos _ _ _ _ w
  go_enter Try.func67, Try.ntmps67
  go_wp2_with (first | (refine wpList_loadAny (t := 24) rfl _ rfl _ _ _ rfl (ta_pos t1) (by first | rfl | omega) ?_; simp only [Act.put, List.setIfInBounds_toArray, List.set_cons_zero, List.set_cons_succ]) | (refine wpList_loadAny (t := 24) rfl _ rfl _ _ _ rfl (run_load_B p1 Try.isAgg24 (by kernel_rfl)) (by rfl) ?_; simp only [Act.put, List.setIfInBounds_toArray, List.set_cons_zero, List.set_cons_succ]) | (refine wpList_boxB (t := 79) rfl _ rfl _ rfl ?_; intro b_t1 wn hle hge ht hbn hzn; have hsz := B.size; replace B := B.trans (hbn.mono (by omega)); have hln := Nat.lt_of_lt_of_eq (Nat.lt_succ_self _) hzn.symm; clear hzn; (try first | (have hlt := t1.lt; replace t1 := t1.of_eq (hbn.block _ (by omega))) | replace t1 := t1.below (hbn.mono hle)); (try first | (have hlt := p1.lt; replace p1 := p1.of_eq (hbn.block _ (by omega))) | replace p1 := p1.below (hbn.mono hle)); have t1 := ht; clear ht; simp only [Act.put, List.setIfInBounds_toArray, List.set_cons_zero, List.set_cons_succ]) | fail)
  go_ret
  exact ⟨rfl, B⟩
set_option maxHeartbeats 1000000 in
theorem P_IndexFunc (v : Value) (ls : List TA) (x y : Int) (b : Nat) (w : World) (h : RS v ls w) (hn : ls.length ≤ maxLen) (p1 : AtB 24 w b #[.int .i64 x, .int .i64 y]) : Calls Try.prog 66 #[v, .func (.func 67) #[] #[.pointer (some ⟨b, 0, none⟩)]] w fun e w' => e = .returned (.int .i64 (if idxL ls x y < ls.length then (idxL ls x y : Int) else -1)) ∧ Below w.heap.size w w' := by
  unfold maxLen at hn
  obtain ⟨a, c, rfl, hc⟩ := h.len
  have B := Below.refl w.heap.size w
  have HS := Lib.hid h
  have P1 := Lib.hid p1
  have hle := idxL_le ls x y
  have eg := enters_of Try.func67 (by kernel_rfl) rfl
  clear h p1
  go_enter Try.func66, Try.ntmps66
  go_wp2
  go_loopw [5, 8] (fun _ i wr => ∃ k : Nat, k ≤ idxL ls x y ∧ i = .int .i64 k ∧ Below w.heap.size w wr) (fun _ i _ => (ls.length - intOf i).toNat)
  case atStart => exact ⟨0, by omega, rfl, B⟩
  case round =>
    clear B
    obtain ⟨k, hk, rfl, B⟩ := hrel
    have p1 := P1.out.of_eq (B.block _ P1.out.lt)
    by_cases hkl : k < ls.length
    · obtain ⟨g, o, rfl, rc0⟩ := HS.out.at (by omega)
      have rc := rc0.of_eq (B.block _ rc0.lt)
      clear rc0
      obtain ⟨e, he⟩ : ∃ e, aT ls k = e := ⟨_, rfl⟩
      by_cases hki : k < idxL ls x y
      · have hq : eqB e.x e.y x y = false := by have := idxL_lt hki; rw [he] at this; exact this
        go_wp2_with (first | (go_at_call 67; refine (P_Tile1 e x y b _ p1).mono ?_; rintro e' wn ⟨rfl, hbn⟩; replace B := B.trans (hbn.mono B.size)) | (refine wpList_loadAny (t := 79) rfl _ rfl _ _ _ rfl (rc_ta rc hkl he) (by first | rfl | omega) ?_; simp only [Act.put, List.setIfInBounds_toArray, List.set_cons_zero, List.set_cons_succ]) | fail)
        go_roundw
        case rel => exact ⟨k + 1, by omega, by go_num, B⟩
        case measure => simp [intOf]; omega
      · obtain rfl : k = idxL ls x y := by omega
        have hq : eqB e.x e.y x y = true := by have := idxL_at hkl; rw [he] at this; exact this
        have H := Lib.hid hkl
        go_wp2_with (first | (go_at_call 67; refine (P_Tile1 e x y b _ p1).mono ?_; rintro e' wn ⟨rfl, hbn⟩; replace B := B.trans (hbn.mono B.size)) | (refine wpList_loadAny (t := 79) rfl _ rfl _ _ _ rfl (rc_ta rc hkl he) (by first | rfl | omega) ?_; simp only [Act.put, List.setIfInBounds_toArray, List.set_cons_zero, List.set_cons_succ]) | fail)
        go_ret
        exact ⟨by first | rfl | (rw [if_pos H.out]; rfl), B⟩
    · have H := Lib.hid (show ¬ idxL ls x y < ls.length by omega)
      go_wp2
      go_ret
      exact ⟨by first | rfl | (rw [if_neg H.out]; rfl), B⟩
set_option maxHeartbeats 1000000 in
theorem P_Tile (v : Value) (ls : List TA) (x y : Int) (w : World) (h : RS v ls w) (hn : ls.length ≤ maxLen) : Calls Try.prog 22 #[.agg #[v], Ps.v x y] w fun e w' => e = .returned (Tile.v (tileL ls x y)) ∧ Below w.heap.size w w' := by
  obtain ⟨a, c, rfl, hc⟩ := h.len
  have hle := idxL_le ls x y
  have hml : (9223372036854775807 : Int) ≥ maxLen := by unfold maxLen; omega
  have B := Below.refl w.heap.size w
  have HS := Lib.hid h
  clear h
  simp only [Ps.v]
  by_cases hi : idxL ls x y < ls.length
  · rw [tileL_idx, if_pos hi]
    obtain ⟨g, o, rfl, rc⟩ := HS.out.at (by omega)
    have hg0 := rc.lt
    obtain ⟨e, he⟩ : ∃ e, aT ls (idxL ls x y) = e := ⟨_, rfl⟩
    rw [he]
    have hif : (if idxL ls x y < ls.length then (idxL ls x y : Int) else -1) = (idxL ls x y : Int) := if_pos hi
    go_enter Try.func22, Try.ntmps22
    go_wp2_with (first | (refine wpList_storeT rfl _ _ rfl _ rfl _ rfl u1 ?_; clear u1; intro wn ht hcn hzn; have hsz := B.size; replace hzn := Nat.le_of_eq hzn.symm; replace B := Chg.below B hcn (by omega) B.size; (try replace r1 := r1.of_eq (hcn.block _ r1.lt (by omega))); (try replace p1 := p1.of_eq (hcn.block _ p1.lt (by omega))); (try replace rc := rc.of_eq (hcn.block _ rc.lt (by omega))); have u1 := ht; clear ht; simp only [Act.put, List.setIfInBounds_toArray, List.set_cons_zero, List.set_cons_succ]) | (refine wpList_loadAny (t := 40) rfl _ rfl _ _ _ rfl (rc_tile rc hi he) (by first | rfl | omega) ?_; simp only [Act.put, List.setIfInBounds_toArray, List.set_cons_zero, List.set_cons_succ]) | (go_at_call 66; refine (P_IndexFunc _ ls x y _ _ (HS.out.below B) hn p1).mono ?_; rintro e wn ⟨rfl, hbn⟩; have hsz := B.size; have hzn := hbn.size; replace B := B.trans (hbn.mono B.size); (try first | replace r1 := r1.of_eq (hbn.block _ r1.lt) | replace r1 := r1.below hbn); (try first | replace p1 := p1.of_eq (hbn.block _ p1.lt) | replace p1 := p1.below hbn); (try first | replace u1 := u1.of_eq (hbn.block _ u1.lt) | replace u1 := u1.below hbn); (try first | replace rc := rc.of_eq (hbn.block _ rc.lt) | replace rc := rc.below hbn)) | (refine wpList_loadAny (t := 28) rfl _ rfl _ _ _ rfl (run_load_sl r1.cell0) (by rfl) ?_; simp only [Act.put, List.setIfInBounds_toArray, List.set_cons_zero, List.set_cons_succ]) | (have _ := p1; refine wpList_allocT' rfl rfl ?_; intro b_u1 wn hle hge ht hbn hzn; have hsz := B.size; replace B := B.trans (hbn.mono (by omega)); have hln := Nat.lt_of_lt_of_eq (Nat.lt_succ_self _) hzn.symm; clear hzn; (try first | (have hlt := r1.lt; replace r1 := r1.of_eq (hbn.block _ (by omega))) | replace r1 := r1.below (hbn.mono hle)); (try first | (have hlt := p1.lt; replace p1 := p1.of_eq (hbn.block _ (by omega))) | replace p1 := p1.below (hbn.mono hle)); (try first | (have hlt := u1.lt; replace u1 := u1.of_eq (hbn.block _ (by omega))) | replace u1 := u1.below (hbn.mono hle)); (try first | (have hlt := rc.lt; replace rc := rc.of_eq (hbn.block _ (by omega))) | replace rc := rc.below (hbn.mono hle)); have u1 := ht; clear ht; simp only [Act.put, List.setIfInBounds_toArray, List.set_cons_zero, List.set_cons_succ]) | (have _ := r1; refine wpList_boxB (t := 24) rfl _ rfl _ rfl ?_; intro b_p1 wn hle hge ht hbn hzn; have hsz := B.size; replace B := B.trans (hbn.mono (by omega)); have hln := Nat.lt_of_lt_of_eq (Nat.lt_succ_self _) hzn.symm; clear hzn; (try first | (have hlt := r1.lt; replace r1 := r1.of_eq (hbn.block _ (by omega))) | replace r1 := r1.below (hbn.mono hle)); (try first | (have hlt := p1.lt; replace p1 := p1.of_eq (hbn.block _ (by omega))) | replace p1 := p1.below (hbn.mono hle)); (try first | (have hlt := u1.lt; replace u1 := u1.of_eq (hbn.block _ (by omega))) | replace u1 := u1.below (hbn.mono hle)); (try first | (have hlt := rc.lt; replace rc := rc.of_eq (hbn.block _ (by omega))) | replace rc := rc.below (hbn.mono hle)); have p1 := ht; clear ht; simp only [Act.put, List.setIfInBounds_toArray, List.set_cons_zero, List.set_cons_succ]) | (refine wpList_boxB (t := 30) rfl _ rfl _ rfl ?_; intro b_r1 wn hle hge ht hbn hzn; have hsz := B.size; replace B := B.trans (hbn.mono (by omega)); have hln := Nat.lt_of_lt_of_eq (Nat.lt_succ_self _) hzn.symm; clear hzn; (try first | (have hlt := r1.lt; replace r1 := r1.of_eq (hbn.block _ (by omega))) | replace r1 := r1.below (hbn.mono hle)); (try first | (have hlt := p1.lt; replace p1 := p1.of_eq (hbn.block _ (by omega))) | replace p1 := p1.below (hbn.mono hle)); (try first | (have hlt := u1.lt; replace u1 := u1.of_eq (hbn.block _ (by omega))) | replace u1 := u1.below (hbn.mono hle)); (try first | (have hlt := rc.lt; replace rc := rc.of_eq (hbn.block _ (by omega))) | replace rc := rc.below (hbn.mono hle)); have r1 := ht; clear ht; simp only [Act.put, List.setIfInBounds_toArray, List.set_cons_zero, List.set_cons_succ]) | fail)
    refine bodyPost_ret (results_tile rfl _ _ (b_u1) rfl u1) rfl ?_
    exact ⟨rfl, B⟩
  · rw [tileL_idx, if_neg hi]
    have hif : (if idxL ls x y < ls.length then (idxL ls x y : Int) else -1) = -1 := if_neg hi
    go_enter Try.func22, Try.ntmps22
    go_wp2_with (first | (refine wpList_storeT rfl _ _ rfl _ rfl _ rfl u1 ?_; clear u1; intro wn ht hcn hzn; have hsz := B.size; replace hzn := Nat.le_of_eq hzn.symm; replace B := Chg.below B hcn (by omega) B.size; (try replace r1 := r1.of_eq (hcn.block _ r1.lt (by omega))); (try replace p1 := p1.of_eq (hcn.block _ p1.lt (by omega))); (try replace rc := rc.of_eq (hcn.block _ rc.lt (by omega))); have u1 := ht; clear ht; simp only [Act.put, List.setIfInBounds_toArray, List.set_cons_zero, List.set_cons_succ]) | (refine wpList_buildT rfl rfl ?_; simp only [Act.put, List.setIfInBounds_toArray, List.set_cons_zero, List.set_cons_succ]) | (go_at_call 66; refine (P_IndexFunc _ ls x y _ _ (HS.out.below B) hn p1).mono ?_; rintro e wn ⟨rfl, hbn⟩; have hsz := B.size; have hzn := hbn.size; replace B := B.trans (hbn.mono B.size); (try first | replace r1 := r1.of_eq (hbn.block _ r1.lt) | replace r1 := r1.below hbn); (try first | replace p1 := p1.of_eq (hbn.block _ p1.lt) | replace p1 := p1.below hbn); (try first | replace u1 := u1.of_eq (hbn.block _ u1.lt) | replace u1 := u1.below hbn); (try first | replace rc := rc.of_eq (hbn.block _ rc.lt) | replace rc := rc.below hbn)) | (refine wpList_loadAny (t := 28) rfl _ rfl _ _ _ rfl (run_load_sl r1.cell0) (by rfl) ?_; simp only [Act.put, List.setIfInBounds_toArray, List.set_cons_zero, List.set_cons_succ]) | (have _ := p1; refine wpList_allocT' rfl rfl ?_; intro b_u1 wn hle hge ht hbn hzn; have hsz := B.size; replace B := B.trans (hbn.mono (by omega)); have hln := Nat.lt_of_lt_of_eq (Nat.lt_succ_self _) hzn.symm; clear hzn; (try first | (have hlt := r1.lt; replace r1 := r1.of_eq (hbn.block _ (by omega))) | replace r1 := r1.below (hbn.mono hle)); (try first | (have hlt := p1.lt; replace p1 := p1.of_eq (hbn.block _ (by omega))) | replace p1 := p1.below (hbn.mono hle)); (try first | (have hlt := u1.lt; replace u1 := u1.of_eq (hbn.block _ (by omega))) | replace u1 := u1.below (hbn.mono hle)); (try first | (have hlt := rc.lt; replace rc := rc.of_eq (hbn.block _ (by omega))) | replace rc := rc.below (hbn.mono hle)); have u1 := ht; clear ht; simp only [Act.put, List.setIfInBounds_toArray, List.set_cons_zero, List.set_cons_succ]) | (have _ := r1; refine wpList_boxB (t := 24) rfl _ rfl _ rfl ?_; intro b_p1 wn hle hge ht hbn hzn; have hsz := B.size; replace B := B.trans (hbn.mono (by omega)); have hln := Nat.lt_of_lt_of_eq (Nat.lt_succ_self _) hzn.symm; clear hzn; (try first | (have hlt := r1.lt; replace r1 := r1.of_eq (hbn.block _ (by omega))) | replace r1 := r1.below (hbn.mono hle)); (try first | (have hlt := p1.lt; replace p1 := p1.of_eq (hbn.block _ (by omega))) | replace p1 := p1.below (hbn.mono hle)); (try first | (have hlt := u1.lt; replace u1 := u1.of_eq (hbn.block _ (by omega))) | replace u1 := u1.below (hbn.mono hle)); (try first | (have hlt := rc.lt; replace rc := rc.of_eq (hbn.block _ (by omega))) | replace rc := rc.below (hbn.mono hle)); have p1 := ht; clear ht; simp only [Act.put, List.setIfInBounds_toArray, List.set_cons_zero, List.set_cons_succ]) | (refine wpList_boxB (t := 30) rfl _ rfl _ rfl ?_; intro b_r1 wn hle hge ht hbn hzn; have hsz := B.size; replace B := B.trans (hbn.mono (by omega)); have hln := Nat.lt_of_lt_of_eq (Nat.lt_succ_self _) hzn.symm; clear hzn; (try first | (have hlt := r1.lt; replace r1 := r1.of_eq (hbn.block _ (by omega))) | replace r1 := r1.below (hbn.mono hle)); (try first | (have hlt := p1.lt; replace p1 := p1.of_eq (hbn.block _ (by omega))) | replace p1 := p1.below (hbn.mono hle)); (try first | (have hlt := u1.lt; replace u1 := u1.of_eq (hbn.block _ (by omega))) | replace u1 := u1.below (hbn.mono hle)); (try first | (have hlt := rc.lt; replace rc := rc.of_eq (hbn.block _ (by omega))) | replace rc := rc.below (hbn.mono hle)); have r1 := ht; clear ht; simp only [Act.put, List.setIfInBounds_toArray, List.set_cons_zero, List.set_cons_succ]) | fail)
    refine bodyPost_ret (results_tile rfl _ _ (b_u1) rfl u1) rfl ?_
    exact ⟨rfl, B⟩
set_option maxHeartbeats 1000000 in
theorem R_Tile (v : Value) (ls : List TA) (x y : Int) (w : World) (h : RS v ls w) (hn : ls.length ≤ maxLen) : Calls Try.prog 23 #[.agg #[v], Ps.v x y] w fun e w' => e = .returned (Tile.v (tileL ls x y)) ∧ Below w.heap.size w w' := by
  unfold maxLen at hn
  obtain ⟨a, c, rfl, hc⟩ := h.len
  have hle := idxL_le ls x y
  have B := Below.refl w.heap.size w
  have HS := Lib.hid h
  clear h
  simp only [Ps.v]
  go_enter Try.func23, Try.ntmps23
  go_wp2_with (first | (have _ := p1; refine wpList_allocT' rfl rfl ?_; intro b_u1 wn hle hge ht hbn hzn; have hsz := B.size; replace B := B.trans (hbn.mono (by omega)); have hln := Nat.lt_of_lt_of_eq (Nat.lt_succ_self _) hzn.symm; clear hzn; (try first | (have hlt := r1.lt; replace r1 := r1.of_eq (hbn.block _ (by omega))) | replace r1 := r1.below (hbn.mono hle)); (try first | (have hlt := p1.lt; replace p1 := p1.of_eq (hbn.block _ (by omega))) | replace p1 := p1.below (hbn.mono hle)); (try first | (have hlt := u1.lt; replace u1 := u1.of_eq (hbn.block _ (by omega))) | replace u1 := u1.below (hbn.mono hle)); (try first | (have hlt := rc.lt; replace rc := rc.of_eq (hbn.block _ (by omega))) | replace rc := rc.below (hbn.mono hle)); have u1 := ht; clear ht; simp only [Act.put, List.setIfInBounds_toArray, List.set_cons_zero, List.set_cons_succ]) | (have _ := r1; refine wpList_boxB (t := 24) rfl _ rfl _ rfl ?_; intro b_p1 wn hle hge ht hbn hzn; have hsz := B.size; replace B := B.trans (hbn.mono (by omega)); have hln := Nat.lt_of_lt_of_eq (Nat.lt_succ_self _) hzn.symm; clear hzn; (try first | (have hlt := r1.lt; replace r1 := r1.of_eq (hbn.block _ (by omega))) | replace r1 := r1.below (hbn.mono hle)); (try first | (have hlt := p1.lt; replace p1 := p1.of_eq (hbn.block _ (by omega))) | replace p1 := p1.below (hbn.mono hle)); (try first | (have hlt := u1.lt; replace u1 := u1.of_eq (hbn.block _ (by omega))) | replace u1 := u1.below (hbn.mono hle)); (try first | (have hlt := rc.lt; replace rc := rc.of_eq (hbn.block _ (by omega))) | replace rc := rc.below (hbn.mono hle)); have p1 := ht; clear ht; simp only [Act.put, List.setIfInBounds_toArray, List.set_cons_zero, List.set_cons_succ]) | (refine wpList_boxB (t := 30) rfl _ rfl _ rfl ?_; intro b_r1 wn hle hge ht hbn hzn; have hsz := B.size; replace B := B.trans (hbn.mono (by omega)); have hln := Nat.lt_of_lt_of_eq (Nat.lt_succ_self _) hzn.symm; clear hzn; (try first | (have hlt := r1.lt; replace r1 := r1.of_eq (hbn.block _ (by omega))) | replace r1 := r1.below (hbn.mono hle)); (try first | (have hlt := p1.lt; replace p1 := p1.of_eq (hbn.block _ (by omega))) | replace p1 := p1.below (hbn.mono hle)); (try first | (have hlt := u1.lt; replace u1 := u1.of_eq (hbn.block _ (by omega))) | replace u1 := u1.below (hbn.mono hle)); (try first | (have hlt := rc.lt; replace rc := rc.of_eq (hbn.block _ (by omega))) | replace rc := rc.below (hbn.mono hle)); have r1 := ht; clear ht; simp only [Act.put, List.setIfInBounds_toArray, List.set_cons_zero, List.set_cons_succ]) | fail)
  have hr1 := r1.lt
  have hp1 := p1.lt
  have hu1 := u1.lt
  have q1 : w.heap.size ≤ b_r1 := by omega
  have q2 : b_r1 < b_p1 := by omega
  have q3 : b_p1 < b_u1 := by omega
  go_loopw [5] (fun i wr => ∃ k : Nat, k ≤ idxL ls x y ∧ i = .int .i64 k ∧ Below w.heap.size w wr ∧ AtB 30 wr b_r1 #[.slice a ls.length c] ∧ AtB 24 wr b_p1 #[.int .i64 x, .int .i64 y] ∧ TileAt wr b_u1 (fun _ => Px.zero)) (fun i _ => (ls.length - intOf i).toNat)
  case atStart => exact ⟨0, by omega, rfl, B, r1, p1, u1⟩
  case round =>
    clear B r1 p1 u1
    obtain ⟨k, hk, rfl, B, r1, p1, u1⟩ := hrel
    by_cases hkl : k < ls.length
    · obtain ⟨g, o, rfl, rc0⟩ := HS.out.at (by omega)
      have hg0 := rc0.lt
      have rc := rc0.of_eq (B.block _ rc0.lt)
      clear rc0
      obtain ⟨e, he⟩ : ∃ e, aT ls k = e := ⟨_, rfl⟩
      have heq : ∀ w, (binOp .eql 24 (Ps.v e.x e.y) (.agg #[.int .i64 x, .int .i64 y])).run Try.prog w = .ok (.bool (eqB e.x e.y x y)) w := fun w => eql_pos _ _ _ _ w
      by_cases hki : k < idxL ls x y
      · have hq : eqB e.x e.y x y = false := by have := idxL_lt hki; rw [he] at this; exact this
        go_wp2_with (first | (refine wpList_loadAny (t := 28) rfl _ rfl _ _ _ rfl (run_load_sl r1.cell0) (by rfl) ?_; simp only [Act.put, List.setIfInBounds_toArray, List.set_cons_zero, List.set_cons_succ]) | fail)
        refine wp_region_ov (by kernel_rfl) (by kernel_rfl) ?_
        repeat (first | go_big_quiet_skip | (go_big_quiet_want; first | (refine quiet_loadAny (t := 28) rfl _ _ _ rfl (fun w hw => run_load_sl (ov_B r1 w hw).cell0) (by rfl) ?_; simp only [Act.put, List.setIfInBounds_toArray, List.set_cons_zero, List.set_cons_succ]; go_big_quiet_on) | (refine quiet_loadAny (t := 24) rfl _ _ _ rfl (fun w hw => rc_pos (ov_rc rc w hw) hkl he) (by first | rfl | omega) ?_; simp only [Act.put, List.setIfInBounds_toArray, List.set_cons_zero, List.set_cons_succ]; go_big_quiet_on) | (refine quiet_loadAny (t := 24) rfl _ _ _ rfl (fun w hw => run_load_B (ov_B p1 w hw) Try.isAgg24 (by kernel_rfl)) (by rfl) ?_; simp only [Act.put, List.setIfInBounds_toArray, List.set_cons_zero, List.set_cons_succ]; go_big_quiet_on) | (go_big_quiet_op; first | go_big_quiet_on | go_big_quiet_call ((fail)))))
        refine wpQuiet_nil ?_
        intro wn hbn
        have hsz := B.size
        have hzn := hbn.size
        replace B := B.trans (hbn.mono B.size)
        try first | replace r1 := r1.of_eq (hbn.block _ r1.lt) | replace r1 := r1.below hbn
        try first | replace p1 := p1.of_eq (hbn.block _ p1.lt) | replace p1 := p1.below hbn
        try first | replace u1 := u1.of_eq (hbn.block _ u1.lt) | replace u1 := u1.below hbn
        try first | replace rc := rc.of_eq (hbn.block _ rc.lt) | replace rc := rc.below hbn
        go_wp2
        go_roundw
        case rel => exact ⟨k + 1, by omega, by go_num, B, r1, p1, u1⟩
        case measure => simp [intOf]; omega
      · obtain rfl : k = idxL ls x y := by omega
        have hq : eqB e.x e.y x y = true := by have := idxL_at hkl; rw [he] at this; exact this
        have H := Lib.hid (show tileL ls x y = e.t by rw [tileL_idx, if_pos hkl, he])
        go_wp2_with (first | (refine wpList_loadAny (t := 28) rfl _ rfl _ _ _ rfl (run_load_sl r1.cell0) (by rfl) ?_; simp only [Act.put, List.setIfInBounds_toArray, List.set_cons_zero, List.set_cons_succ]) | fail)
        refine wp_region_ov (by kernel_rfl) (by kernel_rfl) ?_
        repeat (first | go_big_quiet_skip | (go_big_quiet_want; first | (refine quiet_loadAny (t := 28) rfl _ _ _ rfl (fun w hw => run_load_sl (ov_B r1 w hw).cell0) (by rfl) ?_; simp only [Act.put, List.setIfInBounds_toArray, List.set_cons_zero, List.set_cons_succ]; go_big_quiet_on) | (refine quiet_loadAny (t := 24) rfl _ _ _ rfl (fun w hw => rc_pos (ov_rc rc w hw) hkl he) (by first | rfl | omega) ?_; simp only [Act.put, List.setIfInBounds_toArray, List.set_cons_zero, List.set_cons_succ]; go_big_quiet_on) | (refine quiet_loadAny (t := 24) rfl _ _ _ rfl (fun w hw => run_load_B (ov_B p1 w hw) Try.isAgg24 (by kernel_rfl)) (by rfl) ?_; simp only [Act.put, List.setIfInBounds_toArray, List.set_cons_zero, List.set_cons_succ]; go_big_quiet_on) | (go_big_quiet_op; first | go_big_quiet_on | go_big_quiet_call ((fail)))))
        refine wpQuiet_nil ?_
        intro wn hbn
        have hsz := B.size
        have hzn := hbn.size
        replace B := B.trans (hbn.mono B.size)
        try first | replace r1 := r1.of_eq (hbn.block _ r1.lt) | replace r1 := r1.below hbn
        try first | replace p1 := p1.of_eq (hbn.block _ p1.lt) | replace p1 := p1.below hbn
        try first | replace u1 := u1.of_eq (hbn.block _ u1.lt) | replace u1 := u1.below hbn
        try first | replace rc := rc.of_eq (hbn.block _ rc.lt) | replace rc := rc.below hbn
        go_wp2_with (first | (refine wpList_storeT rfl _ _ rfl _ rfl _ rfl u1 ?_; clear u1; intro wn ht hcn hzn; have hsz := B.size; replace hzn := Nat.le_of_eq hzn.symm; replace B := Chg.below B hcn (by omega) B.size; (try replace r1 := r1.of_eq (hcn.block _ r1.lt (by omega))); (try replace p1 := p1.of_eq (hcn.block _ p1.lt (by omega))); (try replace rc := rc.of_eq (hcn.block _ rc.lt (by omega))); have u1 := ht; clear ht; simp only [Act.put, List.setIfInBounds_toArray, List.set_cons_zero, List.set_cons_succ]) | (refine wpList_loadAny (t := 40) rfl _ rfl _ _ _ rfl (rc_tile rc hkl he) (by first | rfl | omega) ?_; simp only [Act.put, List.setIfInBounds_toArray, List.set_cons_zero, List.set_cons_succ]) | (refine wpList_loadAny (t := 28) rfl _ rfl _ _ _ rfl (run_load_sl r1.cell0) (by rfl) ?_; simp only [Act.put, List.setIfInBounds_toArray, List.set_cons_zero, List.set_cons_succ]) | fail)
        refine bodyPost_ret (results_tile rfl _ _ (b_u1) rfl u1) rfl ?_
        exact ⟨by rw [H.out], B⟩
    · have H := Lib.hid (show tileL ls x y = zT by rw [tileL_idx, if_neg (by omega)])
      go_wp2_with (first | (refine wpList_storeT rfl _ _ rfl _ rfl _ rfl u1 ?_; clear u1; intro wn ht hcn hzn; have hsz := B.size; replace hzn := Nat.le_of_eq hzn.symm; replace B := Chg.below B hcn (by omega) B.size; (try replace r1 := r1.of_eq (hcn.block _ r1.lt (by omega))); (try replace p1 := p1.of_eq (hcn.block _ p1.lt (by omega))); (try replace rc := rc.of_eq (hcn.block _ rc.lt (by omega))); have u1 := ht; clear ht; simp only [Act.put, List.setIfInBounds_toArray, List.set_cons_zero, List.set_cons_succ]) | (refine wpList_buildT rfl rfl ?_; simp only [Act.put, List.setIfInBounds_toArray, List.set_cons_zero, List.set_cons_succ]) | (refine wpList_loadAny (t := 28) rfl _ rfl _ _ _ rfl (run_load_sl r1.cell0) (by rfl) ?_; simp only [Act.put, List.setIfInBounds_toArray, List.set_cons_zero, List.set_cons_succ]) | fail)
      refine bodyPost_ret (results_tile rfl _ _ (b_u1) rfl u1) rfl ?_
      exact ⟨by rw [H.out]; rfl, B⟩
end Go.Proofs.Ytppccnjckiedlaa
