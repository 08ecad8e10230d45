/- Contracts of the reference's digit, Hex, nibble and Parse. -/
import Derived.Test.YtpkonkkjihbgiaaDoorDx
import Derived.Test.YtpkonkkjihbgiaaDoorDz
import Derived.Test.YtpkonkkjihbgiaaDoorAe
namespace Go.Proofs.YtpkonkkjihbgiaaDoor
open Go.RowKit Sha
set_option linter.unusedVariables false
set_option linter.unusedSimpArgs false

/-- Two bytes in a new row. -/
theorem run_bsB2 (w : World) (o : Oper) (x y : Operand) (ho : o.op = .buildSlice 45 2 #[(0, x), (1, y)]) (ev : Operand → Value) (s t : UInt8) (hx : ev x = Y s) (hy : ev y = Y t) : (execOp ev o).run Tryd.prog w = .ok (.value (.slice (some ⟨w.heap.size, 0, none⟩) 2 2)) (w.alloc (.cells #[Y s, Y t] 5)) := by
  obtain ⟨d, p, t, ps, af, gd⟩ := o
  simp only at ho
  subst ho
  unfold execOp
  simp only [List.map_toArray, List.map_cons, List.map_nil, hx, hy]
  kernel_rfl
def two (s t : UInt8) : Nat → UInt8 := fun i => if i = 0 then s else t
theorem two_get (s t : UInt8) (i : Nat) (hi : i < 2) : [s, t][i]? = some (two s t i) := by
  have hc : i = 0 ∨ i = 1 := by omega
  rcases hc with rfl | rfl <;> rfl
theorem bC_two (s t : UInt8) : bC 2 (two s t) = #[Y s, Y t] := by
  apply Array.ext_getElem?
  intro k
  rw [get_bC]
  have hc : k = 0 ∨ k = 1 ∨ 2 ≤ k := by omega
  rcases hc with rfl | rfl | hk
  · rfl
  · rfl
  · rw [if_neg (by omega)]
    exact (Array.getElem?_eq_none (by simp; omega)).symm
section
variable {ops : Array Oper} {rest : List Oper} {o : Oper} {a : Act} {w : World} {Q : Exit → Act → World → Prop}
theorem wpList_bsB2 (hg : o.guard = none) (x y : Operand) (ho : o.op = .buildSlice 45 2 #[(0, x), (1, y)]) (s t : UInt8) (hx : a.eval x = Y s) (hy : a.eval y = Y t)
    (h : ∀ b w', w.heap.size ≤ b → b ≤ w.heap.size → BAt 5 2 w' b (two s t) → Below b w w' → w'.heap.size = b + 1 → wpList Tryd.prog ops Q rest (a.put o.dst (.slice (some ⟨b, 0, none⟩) 2 2)) w') : wpList Tryd.prog ops Q (o :: rest) a w :=
  wpList_plain hg fun K hK => by
    unfold Oper.wp
    rw [run_bsB2 w o x y ho _ s t hx hy]
    exact hK _ _ (h _ _ (Nat.le_refl _) (Nat.le_refl _) (by unfold BAt; rw [bC_two, heap_get_alloc, if_pos rfl]) ((Below.refl _ _).alloc (Nat.le_refl _) _) (World.size_alloc _ _))
theorem run_bsB0 (w : World) (o : Oper) (ho : o.op = .buildSlice 45 0 #[]) (ev : Operand → Value) : (execOp ev o).run Tryd.prog w = .ok (.value (.slice (some ⟨w.heap.size, 0, none⟩) 0 0)) (w.alloc (.cells #[] 5)) := by
  obtain ⟨d, p, t, ps, af, gd⟩ := o
  simp only at ho
  subst ho
  kernel_rfl
theorem wpList_bsB0 (hg : o.guard = none) (ho : o.op = .buildSlice 45 0 #[])
    (h : ∀ b w', w.heap.size ≤ b → b ≤ w.heap.size → OwnB b (.slice (some ⟨b, 0, none⟩) 0 0) [] w' → Below b w w' → w'.heap.size = b + 1 → wpList Tryd.prog ops Q rest (a.put o.dst (.slice (some ⟨b, 0, none⟩) 0 0)) w') : wpList Tryd.prog ops Q (o :: rest) a w :=
  wpList_plain hg fun K hK => by
    unfold Oper.wp
    rw [run_bsB0 w o ho]
    exact hK _ _ (h _ _ (Nat.le_refl _) (Nat.le_refl _) ⟨rfl, .inr ⟨w.heap.size, 0, #[], rfl, Nat.le_refl _, by rw [heap_get_alloc, if_pos rfl], Nat.le_refl _, by unfold maxLen; omega, rfl, rfl⟩⟩ ((Below.refl _ _).alloc (Nat.le_refl _) _) (World.size_alloc _ _))
theorem OwnB.mono {B B' : Nat} {v : Value} {l : List UInt8} (h : OwnB B v l w) (hb : B' ≤ B) : OwnB B' v l w := by
  obtain ⟨h1, h2⟩ := h
  rcases h2 with h2 | ⟨g, cap, cur, e, hg, r⟩
  · exact ⟨h1, .inl h2⟩
  · exact ⟨h1, .inr ⟨g, cap, cur, e, Nat.le_trans hb hg, r⟩⟩
/-- The bytes of a row of n appended. -/
theorem wpList_appendN (n : Nat) (hn0 : 0 < n) (hg : o.guard = none) (s x : Operand) (ho : o.op = .call { callee := .builtin .append, args := #[s, x], argTypes := #[45, 45] }) (v : Value) (hs : a.eval s = v) (b c : Nat) (hx : a.eval x = .slice (some ⟨b, 0, none⟩) n c) {B : Nat} {l y : List UInt8} {f : Nat → UInt8} {m : Nat} (hown : OwnB B v l w) (hb : BAt 5 m w b f) (hm : n ≤ m) (hyn : y.length = n) (hy : ∀ i, i < n → y[i]? = some (f i)) (hlen : l.length + n ≤ 140737488355328) (hB : B ≤ w.heap.size)
    (h : ∀ v' w', OwnB B v' (l ++ y) w' → Below B w w' → wpList Tryd.prog ops Q rest (a.put o.dst v') w') : wpList Tryd.prog ops Q (o :: rest) a w := by
  obtain ⟨i, hi⟩ : ∃ i, Tryd.prog.info? 5 = some i := by
    cases h : Tryd.prog.info? 5 with
    | some i => exact ⟨i, rfl⟩
    | none =>
      have e : (Tryd.prog.info? 5).isSome = true := by kernel_rfl
      rw [h] at e; cases e
  have hz : i.zero = some (.int .u8 0) := by
    have e : (Tryd.prog.info? 5).bind (·.zero) = some (.int .u8 0) := by kernel_rfl
    rw [hi] at e; exact e
  have hs1 : i.size = 1 := by
    have e : (Tryd.prog.info? 5).map (·.size) = some 1 := by kernel_rfl
    rw [hi] at e; simpa using e
  have hb1 : i.bytes = 1 := by
    have e : (Tryd.prog.info? 5).map (·.bytes) = some 1 := by kernel_rfl
    rw [hi] at e; simpa using e
  refine wpList_append_own (P := Tryd.prog) w hg s x 45 ho B 5 i (.int .u8 0) 1 1 Tryd.underlying45 hi hz hs1 hb1 rfl (by omega) v l.length (Lib.byteCells l) hs hown ⟨b, 0, none⟩ n c (Lib.byteCells y) hx (by simp [Lib.byteCells, hyn]) ?_ ?_ (by unfold maxLen; omega) (by omega) hB ?_
  · intro j u hu
    unfold Lib.byteCells at hu
    rw [List.getElem?_map] at hu
    have hj : j < n := by
      rcases Nat.lt_or_ge j n with k | k
      · exact k
      · rw [List.getElem?_eq_none (by omega)] at hu; cases hu
    rw [hy j hj] at hu
    have := hb.cell (i := j) (by omega)
    have e : (⟨b, 0, none⟩ : Addr).add j = ⟨b, j, none⟩ := by unfold Addr.add; split <;> simp_all
    rw [e, this]
    exact hu
  · intro u hu
    unfold Lib.byteCells at hu
    obtain ⟨z, _, rfl⟩ := List.mem_map.1 hu
    rfl
  · intro v' w' h1 h2 h3
    refine h v' w' ?_ ?_
    · unfold OwnB
      rw [bc_append, List.length_append, hyn]
      exact h1
    · have hlt := hown.lt
      exact ⟨h2.os, h2.tape, h2.output, h2.size, fun k hk => h2.block k (by omega) (fun e => by have := hlt k e.symm; omega)⟩
end
/-- As a string, empty or not. -/
theorem OwnB.conv' {B : Nat} {v : Value} {l : List UInt8} {w : World} {d : TypeId} (hd : Tryd.prog.underlying d = some .string) (h : OwnB B v l w) (hl : l ≠ []) : (convert 45 d v).run Tryd.prog w = .ok (.string (ofL l)) w := by
  obtain ⟨va, vc, rfl⟩ := h.len
  have e : (convert 45 d (.slice va l.length vc)).run Tryd.prog w = (convert 45 9 (.slice va l.length vc)).run Tryd.prog w := by
    rw [run_convert_bytes_string w 45 d 5 _ _ _ Tryd.underlying45 Tryd.underlying5 hd,
      run_convert_bytes_string w 45 9 5 _ _ _ Tryd.underlying45 Tryd.underlying5 Tryd.underlying9]
  rw [e]
  exact h.conv hl

set_option maxHeartbeats 2000000 in
theorem R_digit (n : Nat) (h : n < 16) (w : World) : Calls Tryd.prog 39 #[.int .i64 n] w fun e w' => e = .returned (Y (hexD (UInt8.ofNat n))) ∧ w = w' := by
  have hc : n = 0 ∨ n = 1 ∨ n = 2 ∨ n = 3 ∨ n = 4 ∨ n = 5 ∨ n = 6 ∨ n = 7 ∨ n = 8 ∨ n = 9 ∨ n = 10 ∨ n = 11 ∨ n = 12 ∨ n = 13 ∨ n = 14 ∨ n = 15 := by omega
  rcases hc with rfl | rfl | rfl | rfl | rfl | rfl | rfl | rfl | rfl | rfl | rfl | rfl | rfl | rfl | rfl | rfl
  all_goals
    go_enter Tryd.func39, Tryd.ntmps39
    go_wp2
    go_ret
    exact ⟨rfl, rfl⟩
theorem shr4_div (b : UInt8) : b >>> 4 = UInt8.ofNat (b.toNat / 16) ∧ b &&& 15 = UInt8.ofNat (b.toNat % 16) := by
  have h : ∀ n : Fin 256, (UInt8.ofNat n.val) >>> 4 = UInt8.ofNat (n.val / 16) ∧ (UInt8.ofNat n.val) &&& 15 = UInt8.ofNat (n.val % 16) := by decide +kernel
  have := h ⟨b.toNat, b.toNat_lt⟩
  simpa using this
theorem R_digitZ (z : Int) (n : Nat) (hz : z = n) (h : n < 16) (w : World) : Calls Tryd.prog 39 #[.int .i64 z] w fun e w' => e = .returned (Y (hexD (UInt8.ofNat n))) ∧ w = w' := hz ▸ R_digit n h w
@[go_sem] theorem Y_toInt (w : World) (b : UInt8) : (convert 5 3 (Y b)).run Tryd.prog w = .ok (.int .i64 (b.toNat : Int)) w := by
  unfold Y
  have := b.toNat_lt
  simp [go_sem]
  simp [IntKind.wrap, IntKind.bits, IntKind.signed]
  omega

theorem q16 (b : UInt8) : (b.toNat : Int) / 16 = ((b.toNat / 16 : Nat) : Int) ∧ (b.toNat : Int) % 16 = ((b.toNat % 16 : Nat) : Int) ∧ (b.toNat : Int).tdiv 16 = ((b.toNat / 16 : Nat) : Int) ∧ (b.toNat : Int).tmod 16 = ((b.toNat % 16 : Nat) : Int) := ⟨by omega, by omega, rfl, rfl⟩
set_option maxHeartbeats 2000000 in
set_option maxRecDepth 20000 in
theorem R_Hex (l : List UInt8) (w : World) (hl : l.length < 1099511627776) : Calls Tryd.prog 25 #[.string (ofL l)] w fun e w' => e = .returned (.string (ofL (hexL l))) ∧ Below w.heap.size w w' := by
  have B := Below.refl w.heap.size w
  by_cases h : l.length = 32
  · have hfin := Lib.hid (show hexL l = hexB l 32 by unfold hexL; rw [if_pos h])
    go_enter Tryd.func25, Tryd.ntmps25
    go_wp2_with (first | (refine wpList_bsB0 rfl rfl ?_; intro b_od wn hle hge ht hbn hzn; have hsz := B.size; replace B := B.trans (hbn.mono (by omega)); have hln := Nat.lt_of_lt_of_eq (Nat.lt_succ_self _) hzn.symm; clear hzn; have od := ht; clear ht; simp only [Act.put, List.setIfInBounds_toArray, List.set_cons_zero, List.set_cons_succ]))
    have hbd : w.heap.size ≤ b_od := by omega
    go_loopw [3, 4] (fun v i wr => ∃ k : Nat, k ≤ 32 ∧ i = .int .i64 k ∧ OwnB b_od v (hexB l k) wr ∧ Below w.heap.size w wr ∧ b_od < wr.heap.size) (fun _ i _ => (32 - intOf i).toNat)
    case atStart => exact ⟨0, by omega, rfl, od, B, by omega⟩
    case round =>
      clear B od
      obtain ⟨k, hk, rfl, od, B, hb2⟩ := hrel
      by_cases hlt : k < 32
      · have hnx := hexB_next l k
        rw [(shr4_div _).1, (shr4_div _).2, List.append_assoc] at hnx
        have Hnx := Lib.hid hnx
        clear hnx
        have hb := (byteAt (ofL l) k).toNat_lt
        have Hq := Lib.hid (q16 (byteAt (ofL l) k))
        go_wp2
        refine wp_region_ov_tail1 13 (by kernel_rfl) (by kernel_rfl) _ rfl rfl ?_
        simp only [Nat.reduceSub, List.take_succ_cons, List.take_zero, List.drop_succ_cons, List.drop_zero, Act.eval, Array.getD_eq_getD_getElem?, List.getElem?_toArray, List.getElem?_cons_succ, List.getElem?_cons_zero, Option.getD_some]
        simp only [Act.put, List.setIfInBounds_toArray, List.set_cons_zero, List.set_cons_succ]
        repeat (first | go_big_quiet_skip | (go_big_quiet_want; first | (refine quiet_indexS (t := 24) rfl (ofL l) rfl _ rfl (k) (by rw [ofL_size]; omega) (by omega) ?_; simp only [Act.put, List.setIfInBounds_toArray, List.set_cons_zero, List.set_cons_succ]; go_big_quiet_on) | (go_big_quiet_op; first | go_big_quiet_on | go_big_quiet_call ((first | (go_at_call 39; exact calls_ov_same (R_digitZ _ ((byteAt (ofL l) k).toNat / 16) (by first | omega | exact Hq.out.1 | exact Hq.out.2.2.1) (by omega) _)) | (go_at_call 39; exact calls_ov_same (R_digitZ _ ((byteAt (ofL l) k).toNat % 16) (by first | omega | exact Hq.out.2.1 | exact Hq.out.2.2.2) (by omega) _)))))))
        refine wpQuiet_nil ?_
        intro wn hbn
        have hsz := B.size
        have hzn := hbn.size
        replace B := B.trans (hbn.mono B.size)
        replace od := od.below hbn
        go_wp2_with (first | (at_builtin; refine wpList_appendN 2 (by omega) rfl _ _ rfl _ rfl _ _ rfl od b2 (Nat.le_refl _) (y := [hexD (UInt8.ofNat ((byteAt (ofL l) k).toNat / 16)), hexD (UInt8.ofNat ((byteAt (ofL l) k).toNat % 16))]) rfl (fun i hi => two_get _ _ i hi) (by rw [hexB_length]; omega) (by omega) ?_; intro vn wn ht hbn; have hsz := B.size; have hzn := hbn.size; replace B := B.trans (hbn.mono (by omega)); clear od b2; have od := ht; clear ht; simp only [Act.put, List.setIfInBounds_toArray, List.set_cons_zero, List.set_cons_succ]) | (refine wpList_bsB2 rfl _ _ rfl _ _ rfl rfl ?_; intro b_b2 wn hle hge ht hbn hzn; replace od := od.below (hbn.mono hle); have hsz := B.size; replace B := B.trans (hbn.mono (by omega)); have hln := Nat.lt_of_lt_of_eq (Nat.lt_succ_self _) hzn.symm; clear hzn; (try first | (have hlt := b2.lt; replace b2 := b2.of_eq (hbn.block _ (by omega))) | replace b2 := b2.below (hbn.mono hle)); have b2 := ht; clear ht; simp only [Act.put, List.setIfInBounds_toArray, List.set_cons_zero, List.set_cons_succ]))
        refine NoPan.normal ?_
        go_wp2
        have hnx2 : hexB l (k + 1) = hexB l k ++ [hexD (UInt8.ofNat ((byteAt (ofL l) k).toNat / 16)), hexD (UInt8.ofNat ((byteAt (ofL l) k).toNat % 16))] := Hnx.out
        rw [← hnx2] at od
        go_roundw
        case rel => exact ⟨k + 1, by omega, by go_num, od, B, by omega⟩
        case measure => simp [intOf]; omega
      · obtain rfl : k = 32 := by omega
        have hne : hexB l 32 ≠ [] := fun e => by have := hexB_length l 32; rw [e] at this; cases this
        go_wp2_with ((refine wpList_convAny (s := 45) (d := 9) rfl _ rfl rfl (od.conv hne) ?_; simp only [Act.put, List.setIfInBounds_toArray, List.set_cons_zero, List.set_cons_succ]))
        go_ret
        exact ⟨by rw [hfin.out]; rfl, B⟩
  · have hfin := Lib.hid (show hexL l = [] by unfold hexL; rw [if_neg h])
    have hne : ((l.length : Int) == 32) = false := by simp; omega
    go_enter Tryd.func25, Tryd.ntmps25
    go_wp2
    go_ret
    exact ⟨by rw [hfin.out]; rfl, B⟩
end Go.Proofs.YtpkonkkjihbgiaaDoor
