/- Contracts of the reference's nibble and Parse. -/
import Derived.Test.YtpkonkkjihbgiaaDoorDo
import Derived.Test.YtpkonkkjihbgiaaDoorBk
namespace Go.Proofs.YtpkonkkjihbgiaaDoor
open Go.RowKit Sha
set_option linter.unusedVariables false
set_option linter.unusedSimpArgs false
set_option maxRecDepth 20000

@[go_sem] theorem Y_eql (w : World) (a b : UInt8) : (binOp .eql 5 (Y a) (Y b)).run Tryd.prog w = .ok (.bool (decide (a = b))) w := by
  have e : decide (a = b) = (((a.toNat : Int)) == (b.toNat : Int)) := by
    rw [Bool.eq_iff_iff, decide_eq_true_iff, beq_iff_eq]
    exact ⟨fun h => by rw [h], fun h => UInt8.toNat_inj.1 (by omega)⟩
  rw [e]
  unfold Y
  simp [go_sem]
@[go_sem] theorem guardY_eql (w : World) (b : UInt8) (t : TypeId) (p q : Operand) (v : Value) : (eqGuard .eql t p q (Y b) v).run Tryd.prog w = .ok () w := by
  unfold Y; simp [go_sem]
theorem nib_hit (k : Nat) (hk : k < 16) (c : UInt8) (h : hexD (UInt8.ofNat k) = c) : nib c = k := by
  have key : ∀ k : Fin 16, nib (hexD (UInt8.ofNat k.val)) = (k.val : Int) := by decide +kernel
  rw [← h]
  exact key ⟨k, hk⟩
theorem nib_miss (c : UInt8) (h : ∀ j, j < 16 → hexD (UInt8.ofNat j) ≠ c) : nib c = -1 := by
  have key : ∀ n : Fin 256, (∀ j : Fin 16, hexD (UInt8.ofNat j.val) ≠ UInt8.ofNat n.val) → nib (UInt8.ofNat n.val) = -1 := by decide +kernel
  have := key ⟨c.toNat, c.toNat_lt⟩
  simp only [UInt8.ofNat_toNat] at this
  exact this fun j => h j.val j.isLt
set_option maxHeartbeats 1000000 in
theorem R_nibble (c : UInt8) (w : World) : Calls Tryd.prog 38 #[Y c] w fun e w' => e = .returned (.int .i64 (nib c)) ∧ w = w' := by
  go_enter Tryd.func38, Tryd.ntmps38
  go_wp2
  go_loop [3] (fun i => ∃ k : Nat, k ≤ 16 ∧ i = .int .i64 k ∧ Hid (∀ j, j < k → hexD (UInt8.ofNat j) ≠ c)) (fun i => (16 - intOf i).toNat)
  case atStart => exact ⟨0, by omega, rfl, Lib.hid fun j hj => absurd hj (Nat.not_lt_zero _)⟩
  case round =>
    obtain ⟨k, hk, rfl, hn⟩ := hrel
    by_cases hlt : k < 16
    · by_cases he : hexD (UInt8.ofNat k) = c
      · have hh := Lib.hid (nib_hit k hlt c he)
        have hd : decide (hexD (UInt8.ofNat k) = c) = true := decide_eq_true he
        clear he
        go_wp2_with ((go_at_call 39; refine (R_digit k (by omega) _).mono ?_; rintro e wq ⟨rfl, rfl⟩))
        go_ret
        exact ⟨by rw [hh.out]; rfl, rfl⟩
      · have hd : decide (hexD (UInt8.ofNat k) = c) = false := decide_eq_false he
        have he' := Lib.hid he
        clear he
        go_wp2_with ((go_at_call 39; refine (R_digit k (by omega) _).mono ?_; rintro e wq ⟨rfl, rfl⟩))
        go_round
        case rel => exact ⟨k + 1, by omega, by go_num, Lib.hid fun j hj => by
          by_cases e : j = k
          · subst e; exact he'.out
          · exact hn.out j (by omega)⟩
        case measure => simp [intOf]; omega
    · obtain rfl : k = 16 := by omega
      have hh := Lib.hid (nib_miss c hn.out)
      go_wp2
      go_ret
      exact ⟨by rw [hh.out]; rfl, rfl⟩
theorem run_bsB1 (w : World) (o : Oper) (x : Operand) (ho : o.op = .buildSlice 45 1 #[(0, x)]) (ev : Operand → Value) (s : UInt8) (hx : ev x = Y s) : (execOp ev o).run Tryd.prog w = .ok (.value (.slice (some ⟨w.heap.size, 0, none⟩) 1 1)) (w.alloc (.cells #[Y s] 5)) := by
  obtain ⟨d, p, t, ps, af, gd⟩ := o
  simp only at ho
  subst ho
  unfold execOp
  simp only [List.map_toArray, List.map_cons, List.map_nil, hx]
  kernel_rfl
theorem one_get (s : UInt8) (i : Nat) (hi : i < 1) : [s][i]? = some s := by
  obtain rfl : i = 0 := by omega
  rfl
theorem bC_one (s : UInt8) : bC 1 (fun _ => s) = #[Y s] := by
  apply Array.ext_getElem?
  intro k
  rw [get_bC]
  have hc : k = 0 ∨ 1 ≤ k := by omega
  rcases hc with rfl | hk
  · rfl
  · rw [if_neg (by omega)]
    exact (Array.getElem?_eq_none (by simp; omega)).symm
theorem wpList_bsB1 {ops : Array Oper} {rest : List Oper} {o : Oper} {a : Act} {w : World} {Q : Exit → Act → World → Prop} (hg : o.guard = none) (x : Operand) (ho : o.op = .buildSlice 45 1 #[(0, x)]) (z : Int) (hx : a.eval x = .int .u8 z) (s : UInt8) (hz : z = (s.toNat : Int))
    (h : ∀ b w', w.heap.size ≤ b → b ≤ w.heap.size → BAt 5 1 w' b (fun _ => s) → Below b w w' → w'.heap.size = b + 1 → wpList Tryd.prog ops Q rest (a.put o.dst (.slice (some ⟨b, 0, none⟩) 1 1)) w') : wpList Tryd.prog ops Q (o :: rest) a w :=
  wpList_plain hg fun K hK => by
    unfold Oper.wp
    rw [run_bsB1 w o x ho _ s (by rw [hx, hz]; rfl)]
    exact hK _ _ (h _ _ (Nat.le_refl _) (Nat.le_refl _) (by unfold BAt; rw [bC_one, heap_get_alloc, if_pos rfl]) ((Below.refl _ _).alloc (Nat.le_refl _) _) (World.size_alloc _ _))
theorem run_alloc_Got (w : World) (o : Oper) (ho : o.op = .alloc 40) (ev : Operand → Value) : (execOp ev o).run Tryd.prog w = .ok (.value (.pointer (some ⟨w.heap.size, 0, none⟩))) (w.alloc (.cells #[.string ⟨#[]⟩, .int .i64 0] 40)) := by
  obtain ⟨d, p, t, ps, af, gd⟩ := o
  simp only at ho
  subst ho
  kernel_rfl
theorem pair_sum (a b : UInt8) (ha : 0 ≤ nib a) (hb : 0 ≤ nib b) : 16 * nib a + nib b = ((pairB a b).toNat : Int) := by
  have h1 := nib_bd a
  have h2 := nib_bd b
  unfold pairB
  rw [UInt8.toNat_ofNat']
  omega
def Got02.v (s : ByteArray) (e : Int) : Value := .agg #[.string s, .int .i64 e]
set_option maxHeartbeats 600000 in
theorem R_Parse (l : List UInt8) (w : World) (hl : l.length < 1099511627776) : Calls Tryd.prog 23 #[.string (ofL l)] w fun e w' => e = .returned (Got02.v (ofL (parseD l)) (parseE l)) ∧ Below w.heap.size w w' := by
  have B := Below.refl w.heap.size w
  by_cases h : l.length = 64
  · have hL := Lib.hid h
    go_enter Tryd.func23, Tryd.ntmps23
    go_wp2_with (first | (refine wpList_bsB0 rfl rfl ?_; intro b_od wn hle hge ht hbn hzn; have hsz := B.size; replace B := B.trans (hbn.mono (by omega)); have hln := Nat.lt_of_lt_of_eq (Nat.lt_succ_self _) hzn.symm; clear hzn; (try first | (have hlt := g1.lt; replace g1 := g1.of_eq (hbn.block _ (by omega))) | replace g1 := g1.below (hbn.mono hle)); have od := ht; clear ht; simp only [Act.put, List.setIfInBounds_toArray, List.set_cons_zero, List.set_cons_succ]) | (refine wpList_allocBk (t := 40) rfl _ (run_alloc_Got _ _ rfl) ?_; intro b_g1 wn hle hge ht hbn hzn; have hsz := B.size; replace B := B.trans (hbn.mono (by omega)); have hln := Nat.lt_of_lt_of_eq (Nat.lt_succ_self _) hzn.symm; clear hzn; have g1 := ht; clear ht; simp only [Act.put, List.setIfInBounds_toArray, List.set_cons_zero, List.set_cons_succ]))
    have hbd : b_g1 < b_od := by omega
    have hbg : w.heap.size ≤ b_g1 := by omega
    go_loopw [3, 4, 5, 6] (fun v i _ _ wr => ∃ k : Nat, k ≤ 32 ∧ i = .int .i64 k ∧ Hid (∀ j, j < 2 * k → 0 ≤ nib (l.getD j 0)) ∧ OwnB b_od v (parseP l k) wr ∧ Below w.heap.size w wr ∧ b_od < wr.heap.size ∧ AtB 40 wr b_g1 #[.string ⟨#[]⟩, .int .i64 0]) (fun _ i _ _ _ => (32 - intOf i).toNat)
    case atStart => exact ⟨0, by omega, rfl, Lib.hid fun j hj => by omega, od, B, by omega, g1⟩
    case round =>
      clear B od g1
      obtain ⟨k, hk, rfl, Hok, od, B, hb2, g1⟩ := hrel
      by_cases hlt : k < 32
      · have ea : l.getD (2 * k) 0 = byteAt (ofL l) (2 * k) := rfl
        have eb : l.getD (2 * k + 1) 0 = byteAt (ofL l) (2 * k + 1) := rfl
        have pn := parseP_next l k
        have bada := bad_at (l := l) (j := 2 * k) (by omega)
        have badb := bad_at (l := l) (j := 2 * k + 1) (by omega)
        rw [ea] at bada pn
        rw [eb] at badb pn
        have Ea := Lib.hid ea
        have Eb := Lib.hid eb
        have Pn := Lib.hid pn
        have Ba := Lib.hid bada
        have Bb := Lib.hid badb
        clear ea eb pn bada badb
        obtain ⟨na0, na1⟩ := nib_bd (byteAt (ofL l) (2 * k))
        obtain ⟨nb0, nb1⟩ := nib_bd (byteAt (ofL l) (2 * k + 1))
        have pv0 := pair_sum (byteAt (ofL l) (2 * k)) (byteAt (ofL l) (2 * k + 1))
        have hpb := (pairB (byteAt (ofL l) (2 * k)) (byteAt (ofL l) (2 * k + 1))).toNat_lt
        by_cases ha : nib (byteAt (ofL l) (2 * k)) < 0
        · have hb := Lib.hid (parse_bad (Ba.out ha))
          have da : decide (nib (byteAt (ofL l) (2 * k)) < 0) = true := decide_eq_true ha
          clear pv0
          go_wp2_with (first | (refine wpList_indexS (t := 9) rfl _ _ rfl (ofL l) rfl _ rfl (2 * k) (by rw [ofL_size]; omega) (by first | rfl | omega) ?_; simp only [Act.put, List.setIfInBounds_toArray, List.set_cons_zero, List.set_cons_succ]) | (refine wpList_indexS (t := 9) rfl _ _ rfl (ofL l) rfl _ rfl (2 * k + 1) (by rw [ofL_size]; omega) (by first | rfl | omega) ?_; simp only [Act.put, List.setIfInBounds_toArray, List.set_cons_zero, List.set_cons_succ]) | (go_at_call 38; ((with_reducible refine (R_nibble (byteAt (ofL l) (2 * k)) _).mono ?_)); rintro e wq ⟨rfl, rfl⟩) | (go_at_call 38; ((with_reducible refine (R_nibble (byteAt (ofL l) (2 * k + 1)) _).mono ?_)); rintro e wq ⟨rfl, rfl⟩) | (refine wpList_storeB (t := 40) rfl _ _ rfl _ rfl _ rfl g1 (by kernel_rfl) rfl (by simp [Value.oneCell']) ?_; clear g1; intro wn ht hcn hzn; have hsz := B.size; replace hzn := Nat.le_of_eq hzn.symm; replace B := Chg.below B hcn (by omega) B.size; have g1 := ht; clear ht; simp only [Act.put, List.setIfInBounds_toArray, List.set_cons_zero, List.set_cons_succ]))
          refine bodyPost_ret (results_B (t := 40) rfl _ _ (b_g1) rfl g1 Tryd.isAgg40 (by kernel_rfl)) rfl ?_
          exact ⟨by rw [hb.out.1, hb.out.2]; rfl, B⟩
        · have da : decide (nib (byteAt (ofL l) (2 * k)) < 0) = false := decide_eq_false ha
          by_cases hb : nib (byteAt (ofL l) (2 * k + 1)) < 0
          · have hb' := Lib.hid (parse_bad (Bb.out hb))
            have db : decide (nib (byteAt (ofL l) (2 * k + 1)) < 0) = true := decide_eq_true hb
            clear pv0
            go_wp2_with (first | (refine wpList_indexS (t := 9) rfl _ _ rfl (ofL l) rfl _ rfl (2 * k) (by rw [ofL_size]; omega) (by first | rfl | omega) ?_; simp only [Act.put, List.setIfInBounds_toArray, List.set_cons_zero, List.set_cons_succ]) | (refine wpList_indexS (t := 9) rfl _ _ rfl (ofL l) rfl _ rfl (2 * k + 1) (by rw [ofL_size]; omega) (by first | rfl | omega) ?_; simp only [Act.put, List.setIfInBounds_toArray, List.set_cons_zero, List.set_cons_succ]) | (go_at_call 38; ((with_reducible refine (R_nibble (byteAt (ofL l) (2 * k)) _).mono ?_)); rintro e wq ⟨rfl, rfl⟩) | (go_at_call 38; ((with_reducible refine (R_nibble (byteAt (ofL l) (2 * k + 1)) _).mono ?_)); rintro e wq ⟨rfl, rfl⟩) | (refine wpList_storeB (t := 40) rfl _ _ rfl _ rfl _ rfl g1 (by kernel_rfl) rfl (by simp [Value.oneCell']) ?_; clear g1; intro wn ht hcn hzn; have hsz := B.size; replace hzn := Nat.le_of_eq hzn.symm; replace B := Chg.below B hcn (by omega) B.size; have g1 := ht; clear ht; simp only [Act.put, List.setIfInBounds_toArray, List.set_cons_zero, List.set_cons_succ]))
            refine bodyPost_ret (results_B (t := 40) rfl _ _ (b_g1) rfl g1 Tryd.isAgg40 (by kernel_rfl)) rfl ?_
            exact ⟨by rw [hb'.out.1, hb'.out.2]; rfl, B⟩
          · have db : decide (nib (byteAt (ofL l) (2 * k + 1)) < 0) = false := decide_eq_false hb
            have Pv := Lib.hid (pv0 (by omega) (by omega))
            have hna : 0 ≤ nib (byteAt (ofL l) (2 * k)) := by omega
            have hnb : 0 ≤ nib (byteAt (ofL l) (2 * k + 1)) := by omega
            clear pv0
            go_wp2_with (first | (at_builtin; refine wpList_appendN 1 (by omega) rfl _ _ rfl _ rfl _ _ rfl od b2 (Nat.le_refl _) (y := [pairB (byteAt (ofL l) (2 * k)) (byteAt (ofL l) (2 * k + 1))]) rfl (fun i hi => one_get _ i hi) (by rw [parseP_length]; omega) (by omega) ?_; intro vn wn ht hbn; have hsz := B.size; have hzn := hbn.size; replace B := B.trans (hbn.mono (by omega)); clear od b2; replace g1 := g1.of_eq (hbn.block _ (by omega)); have od := ht; clear ht; simp only [Act.put, List.setIfInBounds_toArray, List.set_cons_zero, List.set_cons_succ]) | (have _ := Pv; refine wpList_bsB1 rfl _ rfl _ rfl (pairB (byteAt (ofL l) (2 * k)) (byteAt (ofL l) (2 * k + 1))) (by first | exact Pv.out | (have := Pv.out; omega)) ?_; intro b_b2 wn hle hge ht hbn hzn; replace od := od.below (hbn.mono hle); have hsz := B.size; replace B := B.trans (hbn.mono (by omega)); have hln := Nat.lt_of_lt_of_eq (Nat.lt_succ_self _) hzn.symm; clear hzn; (try first | (have hlt := g1.lt; replace g1 := g1.of_eq (hbn.block _ (by omega))) | replace g1 := g1.below (hbn.mono hle)); have b2 := ht; clear ht; simp only [Act.put, List.setIfInBounds_toArray, List.set_cons_zero, List.set_cons_succ]) | (refine wpList_indexS (t := 9) rfl _ _ rfl (ofL l) rfl _ rfl (2 * k) (by rw [ofL_size]; omega) (by first | rfl | omega) ?_; simp only [Act.put, List.setIfInBounds_toArray, List.set_cons_zero, List.set_cons_succ]) | (refine wpList_indexS (t := 9) rfl _ _ rfl (ofL l) rfl _ rfl (2 * k + 1) (by rw [ofL_size]; omega) (by first | rfl | omega) ?_; simp only [Act.put, List.setIfInBounds_toArray, List.set_cons_zero, List.set_cons_succ]) | (go_at_call 38; ((with_reducible refine (R_nibble (byteAt (ofL l) (2 * k)) _).mono ?_)); rintro e wq ⟨rfl, rfl⟩) | (go_at_call 38; ((with_reducible refine (R_nibble (byteAt (ofL l) (2 * k + 1)) _).mono ?_)); rintro e wq ⟨rfl, rfl⟩))
            rw [← Pn.out] at od
            go_roundw
            case rel => exact ⟨k + 1, by omega, by go_num, Lib.hid fun j hj => by
              by_cases e1 : j = 2 * k
              · rw [e1, Ea.out]; omega
              · by_cases e2 : j = 2 * k + 1
                · rw [e2, Eb.out]; omega
                · exact Hok.out j (by omega), od, B, by omega, g1⟩
            case measure => simp [intOf]; omega
      · obtain rfl : k = 32 := by omega
        have hg := Lib.hid (parse_good (good_all hL.out (fun j hj => Hok.out j (by omega))))
        have hne : parseP l 32 ≠ [] := fun e => by have := parseP_length l 32; rw [e] at this; cases this
        generalize parseP l 32 = D at *
        go_wp2_with (first | (refine wpList_convAny (s := 45) (d := 24) rfl _ rfl rfl (od.conv' Tryd.underlying24 hne) ?_; simp only [Act.put, List.setIfInBounds_toArray, List.set_cons_zero, List.set_cons_succ]) | (refine wpList_storeB (t := 40) rfl _ _ rfl _ rfl _ rfl g1 (by kernel_rfl) rfl (by simp [Value.oneCell']) ?_; clear g1; intro wn ht hcn hzn; have hsz := B.size; replace hzn := Nat.le_of_eq hzn.symm; replace B := Chg.below B hcn (by omega) B.size; have g1 := ht; clear ht; simp only [Act.put, List.setIfInBounds_toArray, List.set_cons_zero, List.set_cons_succ]))
        refine bodyPost_ret (results_B (t := 40) rfl _ _ (b_g1) rfl g1 Tryd.isAgg40 (by kernel_rfl)) rfl ?_
        exact ⟨by rw [hg.out.1, hg.out.2]; rfl, B⟩
  · have hb := Lib.hid (parse_bad (bad_len h))
    have hne : ((l.length : Int) == 64) = false := by simp; omega
    go_enter Tryd.func23, Tryd.ntmps23
    go_wp2_with (first | (refine wpList_storeB (t := 40) rfl _ _ rfl _ rfl _ rfl g1 (by kernel_rfl) rfl (by simp [Value.oneCell']) ?_; clear g1; intro wn ht hcn hzn; have hsz := B.size; replace hzn := Nat.le_of_eq hzn.symm; replace B := Chg.below B hcn (by omega) B.size; have g1 := ht; clear ht; simp only [Act.put, List.setIfInBounds_toArray, List.set_cons_zero, List.set_cons_succ]) | (refine wpList_allocBk (t := 40) rfl _ (run_alloc_Got _ _ rfl) ?_; intro b_g1 wn hle hge ht hbn hzn; have hsz := B.size; replace B := B.trans (hbn.mono (by omega)); have hln := Nat.lt_of_lt_of_eq (Nat.lt_succ_self _) hzn.symm; clear hzn; have g1 := ht; clear ht; simp only [Act.put, List.setIfInBounds_toArray, List.set_cons_zero, List.set_cons_succ]))
    refine bodyPost_ret (results_B (t := 40) rfl _ _ (b_g1) rfl g1 Tryd.isAgg40 (by kernel_rfl)) rfl ?_
    exact ⟨by rw [hb.out.1, hb.out.2]; rfl, B⟩
end Go.Proofs.YtpkonkkjihbgiaaDoor
