/- TileSetGet: after Set, Get returns the new pixel at that position and the old pixels elsewhere; setting every pixel in any order of positions copies a tile: the law returns true for every input, and its arguments read as they did. No condition. -/
import Derived.Test.YtelfkakaaobfcaaTk
namespace Go.Proofs.Ytelfkakaaobfcaa
open Go.RowKit Pl
set_option linter.unusedVariables false
set_option linter.unusedSimpArgs false

def kkN (n i : Nat) : Nat := (i * (2 * (n % 32) + 1) + n) % 64
theorem kk_all : (List.range 64).all (fun s => (List.range 64).all fun j => (List.range 64).any fun i => kkN s i == j) = true := by decide +kernel
theorem setT_in {t : Nat → Px} {p : Px} {x y : Int} {i : Nat} (hx : 0 ≤ x ∧ x < 8) (hy : 0 ≤ y ∧ y < 8) (hi : (i : Int) = 8 * y + x) : setT t x y p = upd t i p := by
  have h : insB x y = true := by unfold insB; exact decide_eq_true (by omega)
  unfold setT
  rw [if_pos h]
  exact congrArg (fun j => upd t j p) (by unfold posI; omega)
theorem kk_mod (n i : Nat) : kkN (n % 64) i = kkN n i := by
  unfold kkN
  rw [show n % 64 % 32 = n % 32 by omega]
  omega
theorem kk_onto (n j : Nat) (hj : j < 64) : ∃ i, i < 64 ∧ kkN n i = j := by
  have h := List.all_eq_true.1 (List.all_eq_true.1 kk_all (n % 64) (List.mem_range.2 (by omega))) j (List.mem_range.2 hj)
  obtain ⟨i, hi, he⟩ := List.any_eq_true.1 h
  exact ⟨i, List.mem_range.1 hi, by rw [← kk_mod]; simpa using he⟩
def doneK (n k j : Nat) : Bool := decide (∃ i ∈ List.range k, kkN n i = j)
theorem doneK_zero (n j : Nat) : doneK n 0 j = false := by simp [doneK]
theorem doneK_next (n k j : Nat) : doneK n (k + 1) j = (doneK n k j || decide (j = kkN n k)) := by
  unfold doneK
  rw [Bool.eq_iff_iff]
  simp only [decide_eq_true_eq, Bool.or_eq_true, List.mem_range]
  constructor
  · rintro ⟨i, hi, he⟩
    by_cases h : i = k
    · subst h; exact .inr he.symm
    · exact .inl ⟨i, by omega, he⟩
  · rintro (⟨i, hi, he⟩ | h)
    · exact ⟨i, by omega, he⟩
    · exact ⟨k, by omega, h.symm⟩
theorem doneK_all (n j : Nat) (hj : j < 64) : doneK n 64 j = true := by
  obtain ⟨i, hi, he⟩ := kk_onto n j hj
  exact decide_eq_true ⟨i, List.mem_range.2 hi, he⟩

set_option maxHeartbeats 4000000 in
set_option maxRecDepth 20000 in
theorem walk_TileSetGet (t : Nat → Px) (p : Px) (at_ : Int) (ht : Tok t) (hp : p.ok) (hw : (Lit.int .u8 at_).wf = true) (w : World) : Calls Try.prog 4 #[Tile.v t, Px.v p, .int .u8 at_] w fun e w' => e = .returned (.bool true) ∧ Below w.heap.size w w' := by
  obtain ⟨h0, h255⟩ := wf_u8 hw
  obtain ⟨n, rfl⟩ := Int.eq_ofNat_of_zero_le h0
  clear ht hp hw
  have B := Below.refl w.heap.size w
  have hxa : 0 ≤ (n : Int) % 8 ∧ (n : Int) % 8 < 8 := by omega
  have hya : 0 ≤ (n : Int) / 8 % 8 ∧ (n : Int) / 8 % 8 < 8 := by omega
  go_enter Try.func4, Try.ntmps4
  go_wp2_with (first | (refine wpList_storeT rfl _ _ rfl _ rfl _ rfl t11 ?_; clear t11; intro wn ht hcn hzn; have hsz := B.size; replace hzn := Nat.le_of_eq hzn.symm; replace B := Chg.below B hcn (by omega) B.size; (try replace t1 := t1.of_eq (hcn.block _ t1.lt (by omega))); (try replace p1 := p1.of_eq (hcn.block _ p1.lt (by omega))); (try replace t10 := t10.of_eq (hcn.block _ t10.lt (by omega))); have t11 := ht; clear ht; simp only [Act.put, List.setIfInBounds_toArray, List.set_cons_zero, List.set_cons_succ]) | (have _ := t10; refine wpList_allocT' rfl rfl ?_; intro b_t11 wn hle hge ht hbn hzn; have hsz := B.size; replace B := B.trans (hbn.mono (by omega)); have hln := Nat.lt_of_lt_of_eq (Nat.lt_succ_self _) hzn.symm; clear hzn; (try (have hlt := t1.lt; replace t1 := t1.of_eq (hbn.block _ (by omega)))); (try (have hlt := p1.lt; replace p1 := p1.of_eq (hbn.block _ (by omega)))); (try (have hlt := t10.lt; replace t10 := t10.of_eq (hbn.block _ (by omega)))); (try (have hlt := t11.lt; replace t11 := t11.of_eq (hbn.block _ (by omega)))); have t11 := ht; clear ht; simp only [Act.put, List.setIfInBounds_toArray, List.set_cons_zero, List.set_cons_succ]) | (refine wpList_storeT rfl _ _ rfl _ rfl _ rfl t10 ?_; clear t10; intro wn ht hcn hzn; have hsz := B.size; replace hzn := Nat.le_of_eq hzn.symm; replace B := Chg.below B hcn (by omega) B.size; (try replace t1 := t1.of_eq (hcn.block _ t1.lt (by omega))); (try replace p1 := p1.of_eq (hcn.block _ p1.lt (by omega))); (try replace t11 := t11.of_eq (hcn.block _ t11.lt (by omega))); have t10 := ht; clear ht; simp only [Act.put, List.setIfInBounds_toArray, List.set_cons_zero, List.set_cons_succ]) | (have _ := p1; refine wpList_allocT' rfl rfl ?_; intro b_t10 wn hle hge ht hbn hzn; have hsz := B.size; replace B := B.trans (hbn.mono (by omega)); have hln := Nat.lt_of_lt_of_eq (Nat.lt_succ_self _) hzn.symm; clear hzn; (try (have hlt := t1.lt; replace t1 := t1.of_eq (hbn.block _ (by omega)))); (try (have hlt := p1.lt; replace p1 := p1.of_eq (hbn.block _ (by omega)))); (try (have hlt := t10.lt; replace t10 := t10.of_eq (hbn.block _ (by omega)))); (try (have hlt := t11.lt; replace t11 := t11.of_eq (hbn.block _ (by omega)))); have t10 := ht; clear ht; simp only [Act.put, List.setIfInBounds_toArray, List.set_cons_zero, List.set_cons_succ]) | (go_at_call 14; refine (P_Set _ _ _ _ _).mono ?_; rintro e wn ⟨rfl, hbn⟩; have hsz := B.size; have hzn := hbn.size; replace B := B.trans (hbn.mono B.size); (try replace t1 := t1.of_eq (hbn.block _ t1.lt)); (try replace p1 := p1.of_eq (hbn.block _ p1.lt)); (try replace t10 := t10.of_eq (hbn.block _ t10.lt)); (try replace t11 := t11.of_eq (hbn.block _ t11.lt))) | (go_at_call 15; refine (P_Fill _ _).mono ?_; rintro e wn ⟨rfl, hbn⟩; have hsz := B.size; have hzn := hbn.size; replace B := B.trans (hbn.mono B.size); (try replace t1 := t1.of_eq (hbn.block _ t1.lt)); (try replace p1 := p1.of_eq (hbn.block _ p1.lt)); (try replace t10 := t10.of_eq (hbn.block _ t10.lt)); (try replace t11 := t11.of_eq (hbn.block _ t11.lt))) | (refine wpList_loadT rfl _ rfl _ rfl t1 ?_; simp only [Act.put, List.setIfInBounds_toArray, List.set_cons_zero, List.set_cons_succ]) | (refine wpList_loadPx rfl _ rfl _ rfl p1 ?_; simp only [Act.put, List.setIfInBounds_toArray, List.set_cons_zero, List.set_cons_succ]) | (go_at_call 9; refine (sanity _).mono ?_; rintro e wn ⟨rfl, hbn⟩; have hsz := B.size; have hzn := hbn.size; replace B := B.trans (hbn.mono B.size); (try replace t1 := t1.of_eq (hbn.block _ t1.lt)); (try replace p1 := p1.of_eq (hbn.block _ p1.lt)); (try replace t10 := t10.of_eq (hbn.block _ t10.lt)); (try replace t11 := t11.of_eq (hbn.block _ t11.lt))) | (have _ := t1; refine wpList_boxPx' rfl _ rfl _ rfl ?_; intro b_p1 wn hle hge ht hbn hzn; have hsz := B.size; replace B := B.trans (hbn.mono (by omega)); have hln := Nat.lt_of_lt_of_eq (Nat.lt_succ_self _) hzn.symm; clear hzn; (try (have hlt := t1.lt; replace t1 := t1.of_eq (hbn.block _ (by omega)))); (try (have hlt := p1.lt; replace p1 := p1.of_eq (hbn.block _ (by omega)))); (try (have hlt := t10.lt; replace t10 := t10.of_eq (hbn.block _ (by omega)))); (try (have hlt := t11.lt; replace t11 := t11.of_eq (hbn.block _ (by omega)))); have p1 := ht; clear ht; simp only [Act.put, List.setIfInBounds_toArray, List.set_cons_zero, List.set_cons_succ]) | (refine wpList_boxT' rfl _ rfl _ rfl ?_; intro b_t1 wn hle hge ht hbn hzn; have hsz := B.size; replace B := B.trans (hbn.mono (by omega)); have hln := Nat.lt_of_lt_of_eq (Nat.lt_succ_self _) hzn.symm; clear hzn; (try (have hlt := t1.lt; replace t1 := t1.of_eq (hbn.block _ (by omega)))); (try (have hlt := p1.lt; replace p1 := p1.of_eq (hbn.block _ (by omega)))); (try (have hlt := t10.lt; replace t10 := t10.of_eq (hbn.block _ (by omega)))); (try (have hlt := t11.lt; replace t11 := t11.of_eq (hbn.block _ (by omega)))); have t1 := ht; clear ht; simp only [Act.put, List.setIfInBounds_toArray, List.set_cons_zero, List.set_cons_succ]))
  go_loopw [12, 13, 14] (fun i _ _ wr => ∃ k : Nat, k ≤ 64 ∧ i = .int .i64 k ∧ Below w.heap.size w wr ∧ TileAt wr b_t1 (t) ∧ PixAt wr b_p1 (p) ∧ TileAt wr b_t10 (setT t ((n : Int) % 8) ((n : Int) / 8 % 8) p) ∧ TileAt wr b_t11 (mixT (doneK n k) (fillT p) t)) (fun i _ _ _ => (64 - intOf i).toNat)
  case atStart => exact ⟨0, by omega, rfl, B, t1, p1, t10, t11.congr (mixT_none fun j _ => doneK_zero n j)⟩
  case round =>
    clear B t1 p1 t10 t11
    obtain ⟨k, hk64, rfl, B, t1, p1, t10, t11⟩ := hrel
    by_cases hlt : k < 64
    · have hm1 : 0 ≤ (k : Int) * (2 * ((n : Int) % 32) + 1) := Int.mul_nonneg (by omega) (by omega)
      have hm2 : (k : Int) * (2 * ((n : Int) % 32) + 1) ≤ 64 * 63 := Int.mul_le_mul (by omega) (by omega) (by omega) (by omega)
      have ek : ((k : Int) * (2 * ((n : Int) % 32) + 1) + (n : Int)) % 64 = ((kkN n k : Nat) : Int) := by unfold kkN; simp
      go_upto_region 10 with fail
      simp only [ek]
      clear hm1 hm2 ek
      have hq : kkN n k < 64 := by unfold kkN; omega
      have hmix := Lib.hid (show ∀ g : Nat → Px, tileC (upd (mixT (doneK n k) (fillT p) t) (kkN n k) (t (kkN n k))) = tileC (mixT (doneK n (k + 1)) (fillT p) t) from fun g => mixT_next rfl fun j _ => doneK_next n k j)
      replace hmix := Lib.hid (hmix.out t)
      generalize kkN n k = q at *
      have G1 := Lib.hid (show ∀ w, Calls Try.prog 16 #[Tile.v t, .int .i64 ((k : Int) % 8), .int .i64 ((k : Int) / 8)] w fun e w' => e = .returned (Px.v (t k)) ∧ Below w.heap.size w w' from fun w => by
        have e := getT_in (t := t) (x := (k : Int) % 8) (y := (k : Int) / 8) (i := k) (by omega) (by omega) (by omega)
        rw [← e]; exact P_Get _ _ _ w)
      have G3 := Lib.hid (show ∀ w, Calls Try.prog 16 #[Tile.v t, .int .i64 ((q : Int) % 8), .int .i64 ((q : Int) / 8)] w fun e w' => e = .returned (Px.v (t q)) ∧ Below w.heap.size w w' from fun w => by
        have e := getT_in (t := t) (x := (q : Int) % 8) (y := (q : Int) / 8) (i := q) (by omega) (by omega) (by omega)
        rw [← e]; exact P_Get _ _ _ w)
      have S3 := Lib.hid (show ∀ w, Calls Try.prog 14 #[Tile.v (mixT (doneK n k) (fillT p) t), .int .i64 ((q : Int) % 8), .int .i64 ((q : Int) / 8), Px.v (t q)] w fun e w' => e = .returned (Tile.v (upd (mixT (doneK n k) (fillT p) t) q (t q))) ∧ Below w.heap.size w w' from fun w => by
        have e := setT_in (t := mixT (doneK n k) (fillT p) t) (x := (q : Int) % 8) (y := (q : Int) / 8) (i := q) (p := t q) (by omega) (by omega) (by omega)
        rw [← e]; exact P_Set _ _ _ _ w)
      have G2 := getT_in (t := setT t ((n : Int) % 8) ((n : Int) / 8 % 8) p) (x := (k : Int) % 8) (y := (k : Int) / 8) (i := k) (by omega) (by omega) (by omega)
      have hu := setT_in (t := t) (x := (n : Int) % 8) (y := (n : Int) / 8 % 8) (i := 8 * (n / 8 % 8) + n % 8) (p := p) hxa hya (by omega)
      by_cases hc : k = 8 * (n / 8 % 8) + n % 8
      · have hb : ((k : Int) == 8 * ((n : Int) / 8 % 8) + (n : Int) % 8) = true := by simp; omega
        have hW : setT t ((n : Int) % 8) ((n : Int) / 8 % 8) p k = p := by rw [hu]; unfold upd; rw [if_pos hc]
        have hG := Lib.hid (show ∀ w, Calls Try.prog 16 #[Tile.v (setT t ((n : Int) % 8) ((n : Int) / 8 % 8) p), .int .i64 ((k : Int) % 8), .int .i64 ((k : Int) / 8)] w fun e w' => e = .returned (Px.v (p)) ∧ Below w.heap.size w w' from fun w => (P_Get _ _ _ w).mono fun e w' h => ⟨by rw [h.1, G2, hW], h.2⟩)
        have d0 : ∀ w, (binOp .neq 23 (Px.v (p)) (Px.v (p))).run Try.prog w = .ok (.bool false) w := fun w => by rw [neq_px, decide_eq_true rfl]; rfl
        have d1 : ∀ w, (binOp .neq 23 (Px.v (setT t ((n : Int) % 8) ((n : Int) / 8 % 8) p k)) (Px.v (p))).run Try.prog w = .ok (.bool false) w := fun w => by rw [neq_px, decide_eq_true hW]; rfl
        clear hW hc hu G2
        go_wp2_with (first | (refine wpList_storePx rfl _ _ rfl _ rfl (t k) rfl p14 ?_; clear p14; intro wn ht hcn hzn; have hsz := B.size; replace hzn := Nat.le_of_eq hzn.symm; replace B := Chg.below B hcn (by omega) B.size; (try replace t1 := t1.of_eq (hcn.block _ t1.lt (by omega))); (try replace p1 := p1.of_eq (hcn.block _ p1.lt (by omega))); (try replace t10 := t10.of_eq (hcn.block _ t10.lt (by omega))); (try replace t11 := t11.of_eq (hcn.block _ t11.lt (by omega))); have p14 := ht; clear ht; simp only [Act.put, List.setIfInBounds_toArray, List.set_cons_zero, List.set_cons_succ]) | (refine wpList_storePx rfl _ _ rfl _ rfl (p) rfl p14 ?_; clear p14; intro wn ht hcn hzn; have hsz := B.size; replace hzn := Nat.le_of_eq hzn.symm; replace B := Chg.below B hcn (by omega) B.size; (try replace t1 := t1.of_eq (hcn.block _ t1.lt (by omega))); (try replace p1 := p1.of_eq (hcn.block _ p1.lt (by omega))); (try replace t10 := t10.of_eq (hcn.block _ t10.lt (by omega))); (try replace t11 := t11.of_eq (hcn.block _ t11.lt (by omega))); have p14 := ht; clear ht; simp only [Act.put, List.setIfInBounds_toArray, List.set_cons_zero, List.set_cons_succ]) | (have _ := t11; refine wpList_allocPx' rfl rfl ?_; intro b_p14 wn hle hge ht hbn hzn; have hsz := B.size; replace B := B.trans (hbn.mono (by omega)); have hln := Nat.lt_of_lt_of_eq (Nat.lt_succ_self _) hzn.symm; clear hzn; (try (have hlt := t1.lt; replace t1 := t1.of_eq (hbn.block _ (by omega)))); (try (have hlt := p1.lt; replace p1 := p1.of_eq (hbn.block _ (by omega)))); (try (have hlt := t10.lt; replace t10 := t10.of_eq (hbn.block _ (by omega)))); (try (have hlt := t11.lt; replace t11 := t11.of_eq (hbn.block _ (by omega)))); (try (have hlt := p14.lt; replace p14 := p14.of_eq (hbn.block _ (by omega)))); have p14 := ht; clear ht; simp only [Act.put, List.setIfInBounds_toArray, List.set_cons_zero, List.set_cons_succ]) | (go_at_call 16; refine (G1.out _).mono ?_; rintro e wn ⟨rfl, hbn⟩; have hsz := B.size; have hzn := hbn.size; replace B := B.trans (hbn.mono B.size); (try replace t1 := t1.of_eq (hbn.block _ t1.lt)); (try replace p1 := p1.of_eq (hbn.block _ p1.lt)); (try replace t10 := t10.of_eq (hbn.block _ t10.lt)); (try replace t11 := t11.of_eq (hbn.block _ t11.lt)); (try replace p14 := p14.of_eq (hbn.block _ p14.lt))) | (refine wpList_loadT rfl _ rfl _ rfl t1 ?_; simp only [Act.put, List.setIfInBounds_toArray, List.set_cons_zero, List.set_cons_succ]) | (refine wpList_loadPx rfl _ rfl _ rfl p1 ?_; simp only [Act.put, List.setIfInBounds_toArray, List.set_cons_zero, List.set_cons_succ]))
        refine wp_region_ov (by kernel_rfl) (by kernel_rfl) ?_
        repeat (first | go_big_quiet_skip | (go_big_quiet_want; first | (refine quiet_loadT rfl _ rfl (ov_tile t10) ?_; simp only [Act.put, List.setIfInBounds_toArray, List.set_cons_zero, List.set_cons_succ]; go_big_quiet_on) | (refine quiet_loadTp rfl _ rfl (ov_tile t10) (k) (by omega) (by first | rfl | omega) ?_; simp only [Act.put, List.setIfInBounds_toArray, List.set_cons_zero, List.set_cons_succ]; go_big_quiet_on) | (refine quiet_loadPx rfl _ rfl (ov_px p14) ?_; simp only [Act.put, List.setIfInBounds_toArray, List.set_cons_zero, List.set_cons_succ]; go_big_quiet_on) | (go_big_quiet_op; first | go_big_quiet_on | go_big_quiet_call ((first | (go_at_call 16; exact calls_ov (hG.out _)))))))
        refine wpQuiet_nil ?_
        intro wn hbn
        have hsz := B.size
        have hzn := hbn.size
        replace B := B.trans (hbn.mono B.size)
        try replace t1 := t1.of_eq (hbn.block _ t1.lt)
        try replace p1 := p1.of_eq (hbn.block _ p1.lt)
        try replace t10 := t10.of_eq (hbn.block _ t10.lt)
        try replace t11 := t11.of_eq (hbn.block _ t11.lt)
        try replace p14 := p14.of_eq (hbn.block _ p14.lt)
        go_wp2
        refine wp_region_ov_tail 12 (by kernel_rfl) (by kernel_rfl) ?_
        simp only [List.take_succ_cons, List.take_zero, List.drop_succ_cons, List.drop_zero]
        repeat (first | go_big_quiet_skip | (go_big_quiet_want; first | (refine quiet_loadT rfl _ rfl (ov_tile t11) ?_; simp only [Act.put, List.setIfInBounds_toArray, List.set_cons_zero, List.set_cons_succ]; go_big_quiet_on) | (refine quiet_loadT rfl _ rfl (ov_tile t1) ?_; simp only [Act.put, List.setIfInBounds_toArray, List.set_cons_zero, List.set_cons_succ]; go_big_quiet_on) | (go_big_quiet_op; first | go_big_quiet_on | go_big_quiet_call ((first | (go_at_call 16; exact calls_ov (G3.out _)) | (go_at_call 14; exact calls_ov (S3.out _)))))))
        refine wpQuiet_nil ?_
        intro wn hbn
        have hsz := B.size
        have hzn := hbn.size
        replace B := B.trans (hbn.mono B.size)
        try replace t1 := t1.of_eq (hbn.block _ t1.lt)
        try replace p1 := p1.of_eq (hbn.block _ p1.lt)
        try replace t10 := t10.of_eq (hbn.block _ t10.lt)
        try replace t11 := t11.of_eq (hbn.block _ t11.lt)
        try replace p14 := p14.of_eq (hbn.block _ p14.lt)
        go_wp2_with ((refine wpList_storeT rfl _ _ rfl _ rfl _ rfl t11 ?_; clear t11; intro wn ht hcn hzn; have hsz := B.size; replace hzn := Nat.le_of_eq hzn.symm; replace B := Chg.below B hcn (by omega) B.size; (try replace t1 := t1.of_eq (hcn.block _ t1.lt (by omega))); (try replace p1 := p1.of_eq (hcn.block _ p1.lt (by omega))); (try replace t10 := t10.of_eq (hcn.block _ t10.lt (by omega))); (try replace p14 := p14.of_eq (hcn.block _ p14.lt (by omega))); have t11 := ht; clear ht; simp only [Act.put, List.setIfInBounds_toArray, List.set_cons_zero, List.set_cons_succ]))
        replace t11 := t11.congr hmix.out
        go_roundw
        case rel => exact ⟨k + 1, by omega, by go_num, B, t1, p1, t10, t11⟩
        case measure => simp [intOf]; omega
      · have hb : ((k : Int) == 8 * ((n : Int) / 8 % 8) + (n : Int) % 8) = false := by simp; omega
        have hW : setT t ((n : Int) % 8) ((n : Int) / 8 % 8) p k = t k := by rw [hu]; unfold upd; rw [if_neg hc]
        have hG := Lib.hid (show ∀ w, Calls Try.prog 16 #[Tile.v (setT t ((n : Int) % 8) ((n : Int) / 8 % 8) p), .int .i64 ((k : Int) % 8), .int .i64 ((k : Int) / 8)] w fun e w' => e = .returned (Px.v (t k)) ∧ Below w.heap.size w w' from fun w => (P_Get _ _ _ w).mono fun e w' h => ⟨by rw [h.1, G2, hW], h.2⟩)
        have d0 : ∀ w, (binOp .neq 23 (Px.v (t k)) (Px.v (t k))).run Try.prog w = .ok (.bool false) w := fun w => by rw [neq_px, decide_eq_true rfl]; rfl
        have d1 : ∀ w, (binOp .neq 23 (Px.v (setT t ((n : Int) % 8) ((n : Int) / 8 % 8) p k)) (Px.v (t k))).run Try.prog w = .ok (.bool false) w := fun w => by rw [neq_px, decide_eq_true hW]; rfl
        clear hW hc hu G2
        go_wp2_with (first | (refine wpList_storePx rfl _ _ rfl _ rfl (t k) rfl p14 ?_; clear p14; intro wn ht hcn hzn; have hsz := B.size; replace hzn := Nat.le_of_eq hzn.symm; replace B := Chg.below B hcn (by omega) B.size; (try replace t1 := t1.of_eq (hcn.block _ t1.lt (by omega))); (try replace p1 := p1.of_eq (hcn.block _ p1.lt (by omega))); (try replace t10 := t10.of_eq (hcn.block _ t10.lt (by omega))); (try replace t11 := t11.of_eq (hcn.block _ t11.lt (by omega))); have p14 := ht; clear ht; simp only [Act.put, List.setIfInBounds_toArray, List.set_cons_zero, List.set_cons_succ]) | (refine wpList_storePx rfl _ _ rfl _ rfl (p) rfl p14 ?_; clear p14; intro wn ht hcn hzn; have hsz := B.size; replace hzn := Nat.le_of_eq hzn.symm; replace B := Chg.below B hcn (by omega) B.size; (try replace t1 := t1.of_eq (hcn.block _ t1.lt (by omega))); (try replace p1 := p1.of_eq (hcn.block _ p1.lt (by omega))); (try replace t10 := t10.of_eq (hcn.block _ t10.lt (by omega))); (try replace t11 := t11.of_eq (hcn.block _ t11.lt (by omega))); have p14 := ht; clear ht; simp only [Act.put, List.setIfInBounds_toArray, List.set_cons_zero, List.set_cons_succ]) | (have _ := t11; refine wpList_allocPx' rfl rfl ?_; intro b_p14 wn hle hge ht hbn hzn; have hsz := B.size; replace B := B.trans (hbn.mono (by omega)); have hln := Nat.lt_of_lt_of_eq (Nat.lt_succ_self _) hzn.symm; clear hzn; (try (have hlt := t1.lt; replace t1 := t1.of_eq (hbn.block _ (by omega)))); (try (have hlt := p1.lt; replace p1 := p1.of_eq (hbn.block _ (by omega)))); (try (have hlt := t10.lt; replace t10 := t10.of_eq (hbn.block _ (by omega)))); (try (have hlt := t11.lt; replace t11 := t11.of_eq (hbn.block _ (by omega)))); (try (have hlt := p14.lt; replace p14 := p14.of_eq (hbn.block _ (by omega)))); have p14 := ht; clear ht; simp only [Act.put, List.setIfInBounds_toArray, List.set_cons_zero, List.set_cons_succ]) | (go_at_call 16; refine (G1.out _).mono ?_; rintro e wn ⟨rfl, hbn⟩; have hsz := B.size; have hzn := hbn.size; replace B := B.trans (hbn.mono B.size); (try replace t1 := t1.of_eq (hbn.block _ t1.lt)); (try replace p1 := p1.of_eq (hbn.block _ p1.lt)); (try replace t10 := t10.of_eq (hbn.block _ t10.lt)); (try replace t11 := t11.of_eq (hbn.block _ t11.lt)); (try replace p14 := p14.of_eq (hbn.block _ p14.lt))) | (refine wpList_loadT rfl _ rfl _ rfl t1 ?_; simp only [Act.put, List.setIfInBounds_toArray, List.set_cons_zero, List.set_cons_succ]) | (refine wpList_loadPx rfl _ rfl _ rfl p1 ?_; simp only [Act.put, List.setIfInBounds_toArray, List.set_cons_zero, List.set_cons_succ]))
        refine wp_region_ov (by kernel_rfl) (by kernel_rfl) ?_
        repeat (first | go_big_quiet_skip | (go_big_quiet_want; first | (refine quiet_loadT rfl _ rfl (ov_tile t10) ?_; simp only [Act.put, List.setIfInBounds_toArray, List.set_cons_zero, List.set_cons_succ]; go_big_quiet_on) | (refine quiet_loadTp rfl _ rfl (ov_tile t10) (k) (by omega) (by first | rfl | omega) ?_; simp only [Act.put, List.setIfInBounds_toArray, List.set_cons_zero, List.set_cons_succ]; go_big_quiet_on) | (refine quiet_loadPx rfl _ rfl (ov_px p14) ?_; simp only [Act.put, List.setIfInBounds_toArray, List.set_cons_zero, List.set_cons_succ]; go_big_quiet_on) | (go_big_quiet_op; first | go_big_quiet_on | go_big_quiet_call ((first | (go_at_call 16; exact calls_ov (hG.out _)))))))
        refine wpQuiet_nil ?_
        intro wn hbn
        have hsz := B.size
        have hzn := hbn.size
        replace B := B.trans (hbn.mono B.size)
        try replace t1 := t1.of_eq (hbn.block _ t1.lt)
        try replace p1 := p1.of_eq (hbn.block _ p1.lt)
        try replace t10 := t10.of_eq (hbn.block _ t10.lt)
        try replace t11 := t11.of_eq (hbn.block _ t11.lt)
        try replace p14 := p14.of_eq (hbn.block _ p14.lt)
        go_wp2
        refine wp_region_ov_tail 12 (by kernel_rfl) (by kernel_rfl) ?_
        simp only [List.take_succ_cons, List.take_zero, List.drop_succ_cons, List.drop_zero]
        repeat (first | go_big_quiet_skip | (go_big_quiet_want; first | (refine quiet_loadT rfl _ rfl (ov_tile t11) ?_; simp only [Act.put, List.setIfInBounds_toArray, List.set_cons_zero, List.set_cons_succ]; go_big_quiet_on) | (refine quiet_loadT rfl _ rfl (ov_tile t1) ?_; simp only [Act.put, List.setIfInBounds_toArray, List.set_cons_zero, List.set_cons_succ]; go_big_quiet_on) | (go_big_quiet_op; first | go_big_quiet_on | go_big_quiet_call ((first | (go_at_call 16; exact calls_ov (G3.out _)) | (go_at_call 14; exact calls_ov (S3.out _)))))))
        refine wpQuiet_nil ?_
        intro wn hbn
        have hsz := B.size
        have hzn := hbn.size
        replace B := B.trans (hbn.mono B.size)
        try replace t1 := t1.of_eq (hbn.block _ t1.lt)
        try replace p1 := p1.of_eq (hbn.block _ p1.lt)
        try replace t10 := t10.of_eq (hbn.block _ t10.lt)
        try replace t11 := t11.of_eq (hbn.block _ t11.lt)
        try replace p14 := p14.of_eq (hbn.block _ p14.lt)
        go_wp2_with ((refine wpList_storeT rfl _ _ rfl _ rfl _ rfl t11 ?_; clear t11; intro wn ht hcn hzn; have hsz := B.size; replace hzn := Nat.le_of_eq hzn.symm; replace B := Chg.below B hcn (by omega) B.size; (try replace t1 := t1.of_eq (hcn.block _ t1.lt (by omega))); (try replace p1 := p1.of_eq (hcn.block _ p1.lt (by omega))); (try replace t10 := t10.of_eq (hcn.block _ t10.lt (by omega))); (try replace p14 := p14.of_eq (hcn.block _ p14.lt (by omega))); have t11 := ht; clear ht; simp only [Act.put, List.setIfInBounds_toArray, List.set_cons_zero, List.set_cons_succ]))
        replace t11 := t11.congr hmix.out
        go_roundw
        case rel => exact ⟨k + 1, by omega, by go_num, B, t1, p1, t10, t11⟩
        case measure => simp [intOf]; omega
    · obtain rfl : k = 64 := by omega
      replace t11 := t11.congr (mixT_all fun j hj => doneK_all n j hj)
      have hcmp := eql_tile_same
      go_wp2_with (first | (refine wpList_loadTw (by rfl) _ rfl _ rfl t11 ?_; simp only [Act.put, List.setIfInBounds_toArray, List.set_cons_zero, List.set_cons_succ]) | (refine wpList_loadTw (by rfl) _ rfl _ rfl t1 ?_; simp only [Act.put, List.setIfInBounds_toArray, List.set_cons_zero, List.set_cons_succ]))
      go_ret
      exact ⟨rfl, B⟩

namespace tileSetGet
open Go.ChangeShapes Go.WideShapes Go.ChangeAt Go.RowKit
open Go.ChangeMaps (open_string shut_string)
set_option maxRecDepth 100000 in
theorem lifted (os : Os) (started : os.Started) (H : Type) (enc : TypeId × Value → H) :
    ReturnsInHanded {} Try.checked os 4 .any (Rows.tileSetGetSpec.pre6 enc Try.prog Try.f4 Rows.tileSetGetRow.domain false) (Rows.tileSetGetSpec.post enc Try.prog Try.f4 false true false false) := by
  refine returnsInHanded_of_change (C := Try.checked) own started (by kernel_rfl) Try.func4
    (ChangeSpec.witness6 (enc := enc) (C := Try.checked) false ⟨#[], #[.agg (Array.replicate 256 (.int .u8 0)), .agg #[.int .u8 0, .int .u8 0, .int .u8 0, .int .u8 0], .int .u8 0], []⟩ 8 (by kernel_rfl) (by kernel_rfl) (by kernel_rfl) (by kernel_rfl)) ?_
  intro W base args ds gs before hval0 hW hcnd _
  have hval : ∀ (j : Nat) t v, Try.f4.params[j]? = some t → args[j]? = some v → Value.okWide Try.prog W .any base t v := hval0
  have hW' := hW
  obtain ⟨p, q, hA0, hV, rfl, hfz, hnd⟩ := hW
  have hA : DataW.TrodAll enc Try.prog W 0 (fun _ => true) true Try.f4.params.toList args.toList ds p := hA0
  rw [Try.params4] at hA hval
  obtain ⟨v0, vs0, d0, ds0, p0, q0, hargs, rfl, rfl, h0, r0⟩ := trodAll_cons hA
  obtain ⟨v1, vs1, d1, ds1, p1, q1, rfl, rfl, rfl, h1, r1⟩ := trodAll_cons r0
  obtain ⟨v2, vs2, d2, ds2, p2, q2, rfl, rfl, rfl, h2, r2⟩ := trodAll_cons r1
  obtain ⟨rfl, rfl, rfl⟩ := trodAll_nil r2
  obtain rfl : args = #[v0, v1, v2] := by cases args; simp_all
  obtain ⟨rfl, rfl⟩ := trodVars_none hV
  have k0 := h0
  have lt0 : ∀ x ∈ p0, x.block < W.heap.size := by obtain ⟨m, hm⟩ := k0; exact DataW.trod_lt m _ _ _ hm
  have k1 := h1
  have lt1 : ∀ x ∈ p1, x.block < W.heap.size := by obtain ⟨m, hm⟩ := k1; exact DataW.trod_lt m _ _ _ hm
  have k2 := h2
  have lt2 : ∀ x ∈ p2, x.block < W.heap.size := by obtain ⟨m, hm⟩ := k2; exact DataW.trod_lt m _ _ _ hm
  obtain ⟨a0, rfl, w0⟩ := open_tile (hval 0 25 v0 rfl rfl) h0
  obtain ⟨a1, rfl, w1⟩ := open_px (hval 1 23 v1 rfl rfl) h1
  obtain ⟨a2, rfl, rfl, rfl, w2⟩ := open_int Try.underlying5 (hval 2 5 v2 rfl rfl) h2
  clear hA0 hval0
  refine (walk_TileSetGet a0 a1 a2 w0 w1 w2 W ).mono fun e W' ⟨he, bel⟩ => ?_
  subst he
  exact ⟨_, rfl, _, _, _, [], _, [], hW', trodAll_mk1 (shut_bool Try.underlying4 _), (trodAll_cons_mk (Below.trod laidOut (by kernel_rfl) (of_decide_eq_true (by kernel_rfl)) k0 bel lt0) (trodAll_cons_mk (Below.trod laidOut (by kernel_rfl) (of_decide_eq_true (by kernel_rfl)) k1 bel lt1) (trodAll_cons_mk (Below.trod laidOut (by kernel_rfl) (of_decide_eq_true (by kernel_rfl)) k2 bel lt2) trodAll_mk0))), rfl, bel.frame _, fun h => by cases h⟩
theorem over : Rows.tileSetGetRow.holds Try.pinned (OpenSpec.ofChange Rows.tileSetGetSpec) :=
  OpenClaim.holds_of_wide 4 Try.f4 rfl rfl rfl rfl rfl rfl rfl ⟨rfl, rfl, rfl, rfl, rfl⟩ rfl rfl rfl rfl rfl (by kernel_rfl) Try.func4 (by kernel_rfl)
    (of_decide_eq_true (by kernel_rfl)) (by unfold Func.isWrapper; first | (rw [if_pos (by decide +kernel)]; kernel_rfl) | (rw [if_neg (by decide +kernel)]; exact ⟨rfl, rfl⟩))
    (fun os started H enc _ => lifted os started H enc)
/-- THE STATEMENT: TileSetGet returns true for every input, and its arguments read as they did. -/
theorem proved : Rows.TileSetGetSaid := over
end tileSetGet

end Go.Proofs.Ytelfkakaaobfcaa
