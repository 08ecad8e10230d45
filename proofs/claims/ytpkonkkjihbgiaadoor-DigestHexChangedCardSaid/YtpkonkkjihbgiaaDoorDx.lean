/- Contract of valid; plain laws of hexadecimal digits. -/
import Derived.Test.YtpkonkkjihbgiaaDoorDw
namespace Go.Proofs.YtpkonkkjihbgiaaDoor
open Go.RowKit Sha
set_option linter.unusedVariables false
set_option linter.unusedSimpArgs false

theorem hex_pair (b : UInt8) : pairB (hexD (b >>> 4)) (hexD (b &&& 15)) = b := by
  have h : ∀ n : Fin 256, pairB (hexD (UInt8.ofNat n.val >>> 4)) (hexD (UInt8.ofNat n.val &&& 15)) = UInt8.ofNat n.val := by decide +kernel
  have := h ⟨b.toNat, b.toNat_lt⟩
  simpa using this
theorem hex_nib (b : UInt8) : 0 ≤ nib (hexD (b >>> 4)) ∧ 0 ≤ nib (hexD (b &&& 15)) := by
  have h : ∀ n : Fin 256, 0 ≤ nib (hexD (UInt8.ofNat n.val >>> 4)) ∧ 0 ≤ nib (hexD (UInt8.ofNat n.val &&& 15)) := by decide +kernel
  have := h ⟨b.toNat, b.toNat_lt⟩
  simpa using this
def isDig (c : UInt8) : Prop := (48 ≤ c.toNat ∧ c.toNat ≤ 57) ∨ (97 ≤ c.toNat ∧ c.toNat ≤ 102)
instance (c : UInt8) : Decidable (isDig c) := by unfold isDig; exact inferInstance
theorem hex_dig (b : UInt8) : isDig (hexD (b >>> 4)) ∧ isDig (hexD (b &&& 15)) := by
  have h : ∀ n : Fin 256, isDig (hexD (UInt8.ofNat n.val >>> 4)) ∧ isDig (hexD (UInt8.ofNat n.val &&& 15)) := by decide +kernel
  have := h ⟨b.toNat, b.toNat_lt⟩
  simpa using this
theorem hexB_at (l : List UInt8) : ∀ n k, k < n → (hexB l n).getD (2 * k) 0 = hexD (l.getD k 0 >>> 4) ∧ (hexB l n).getD (2 * k + 1) 0 = hexD (l.getD k 0 &&& 15) := by
  intro n
  induction n with
  | zero => intro k hk; omega
  | succ n ih =>
    intro k hk
    have e : hexB l (n + 1) = hexB l n ++ [hexD (l.getD n 0 >>> 4), hexD (l.getD n 0 &&& 15)] := by rw [hexB_next, List.append_assoc]; rfl
    rw [e]
    simp only [List.getD_eq_getElem?_getD]
    by_cases h : k < n
    · have := ih k h
      simp only [List.getD_eq_getElem?_getD] at this
      rw [List.getElem?_append_left (by rw [hexB_length]; omega), List.getElem?_append_left (by rw [hexB_length]; omega)]
      exact this
    · obtain rfl : k = n := by omega
      rw [List.getElem?_append_right (by rw [hexB_length]; omega), List.getElem?_append_right (by rw [hexB_length]; omega), hexB_length]
      rw [show 2 * k - 2 * k = 0 by omega, show 2 * k + 1 - 2 * k = 1 by omega]
      exact ⟨rfl, rfl⟩
theorem hexB_all {P : UInt8 → Prop} (l : List UInt8) (n : Nat) (h : ∀ b : UInt8, P (hexD (b >>> 4)) ∧ P (hexD (b &&& 15))) : ∀ j, j < 2 * n → P ((hexB l n).getD j 0) := by
  intro j hj
  have := hexB_at l n (j / 2) (by omega)
  by_cases e : j % 2 = 0
  · rw [show j = 2 * (j / 2) by omega, this.1]; exact (h _).1
  · rw [show j = 2 * (j / 2) + 1 by omega, this.2]; exact (h _).2
theorem parse_hexB (l : List UInt8) (h : l.length = 32) : parseOk (hexB l 32) = true :=
  good_all (by rw [hexB_length]) (fun j hj => hexB_all (P := fun c => 0 ≤ nib c) l 32 hex_nib j (by omega))
theorem parseP_hexB (l : List UInt8) : ∀ k, k ≤ 32 → k ≤ l.length → parseP (hexB l 32) k = l.take k
  | 0, _, _ => rfl
  | k + 1, h, hl => by
    have e := hexB_at l 32 k (by omega)
    rw [parseP_next, parseP_hexB l k (by omega) (by omega), e.1, e.2, hex_pair]
    have hg : l.getD k 0 = l[k]'(by omega) := by rw [List.getD_eq_getElem?_getD, List.getElem?_eq_getElem (by omega)]; rfl
    rw [hg, ← List.take_append_getElem]
/-- Parse inverts Hex. -/
theorem parse_hex (l : List UInt8) (h : l.length = 32) : parseD (hexL l) = l ∧ parseE (hexL l) = 0 := by
  have e : hexL l = hexB l 32 := by unfold hexL; rw [if_pos h]
  rw [e]
  have g := parse_good (parse_hexB l h)
  rw [g.1, g.2, parseP_hexB l 32 (by omega) (by omega), List.take_of_length_le (by omega)]
  exact ⟨rfl, rfl⟩

/-- The bytes of a string, repeated to 32. -/
def valB (s : ByteArray) : Nat → UInt8 := fun i => if s.size = 0 then 0 else byteAt s (i % s.size)
def valL (s : ByteArray) : List UInt8 := (List.range 32).map (valB s)
theorem valL_length (s : ByteArray) : (valL s).length = 32 := by simp [valL]
theorem run_make_b32 (w : World) (o : Oper) (ho : o.op = .makeSlice 45 (.const (.int .i64 32)) (.const (.int .i64 32))) (a : Act) : (execOp a.eval o).run Tryd.prog w = .ok (.value (.slice (some ⟨w.heap.size, 0, none⟩) 32 32)) (w.alloc (.cells (bC 32 fun _ => 0) 5)) := by
  obtain ⟨d, p, t, ps, af, gd⟩ := o
  simp only at ho
  subst ho
  kernel_rfl
theorem wpList_makeB32 {ops : Array Oper} {rest : List Oper} {o : Oper} {a : Act} {w : World} {Q : Exit → Act → World → Prop} (hg : o.guard = none) (ho : o.op = .makeSlice 45 (.const (.int .i64 32)) (.const (.int .i64 32)))
    (h : ∀ b w', w.heap.size ≤ b → b ≤ w.heap.size → BAt 5 32 w' b (fun _ => 0) → Below b w w' → w'.heap.size = b + 1 → wpList Tryd.prog ops Q rest (a.put o.dst (.slice (some ⟨b, 0, none⟩) 32 32)) w') : wpList Tryd.prog ops Q (o :: rest) a w :=
  wpList_plain hg fun K hK => by
    unfold Oper.wp
    rw [run_make_b32 w o ho a]
    exact hK _ _ (h _ _ (Nat.le_refl _) (Nat.le_refl _) (by unfold BAt; rw [heap_get_alloc, if_pos rfl]) ((Below.refl _ _).alloc (Nat.le_refl _) _) (World.size_alloc _ _))
/-- The first k bytes are those of f. -/
def stepF (f : Nat → UInt8) (k : Nat) : Nat → UInt8 := fun j => if j < k then f j else 0
theorem stepF_next (f : Nat → UInt8) (k : Nat) : updB (stepF f k) k (f k) = stepF f (k + 1) := by
  funext j
  unfold updB stepF
  by_cases h : j = k
  · subst h; simp
  · rw [if_neg h]
    by_cases h2 : j < k
    · rw [if_pos h2, if_pos (by omega)]
    · rw [if_neg h2, if_neg (by omega)]
theorem wpList_storeY {ops : Array Oper} {rest : List Oper} {o : Oper} {a : Act} {w : World} {Q : Exit → Act → World → Prop} {t n : Nat} (hg : o.guard = none) (x y : Operand) (ho : o.op = .store 5 x y) (b j : Nat) (hx : a.eval x = .pointer (some ⟨b, j, none⟩)) (v : UInt8) (hy : a.eval y = Y v) {f : Nat → UInt8} (ht : BAt t n w b f) (i : Nat) (hi : i < n) (hj : j = i)
    (h : ∀ w', BAt t n w' b (updB f i v) → Chg b w w' → w'.heap.size = w.heap.size → wpList Tryd.prog ops Q rest (a.put o.dst undef) w') : wpList Tryd.prog ops Q (o :: rest) a w :=
  wpList_storeByte hg x y ho b j hx v.toNat hy v rfl ht i hi hj h
theorem run_conv_digest {t n : Nat} {w : World} {b : Nat} {f : Nat → UInt8} (h : BAt t n w b f) (l : List UInt8) (o cap : Nat) (ho : o + l.length ≤ n) (hl : ∀ i, i < l.length → l[i]? = some (f (o + i))) :
    (convert 45 24 (.slice (some ⟨b, o, none⟩) l.length cap)).run Tryd.prog w = .ok (.string (ofL l)) w := by
  have e : (convert 45 24 (.slice (some ⟨b, o, none⟩) l.length cap)).run Tryd.prog w = (convert 45 9 (.slice (some ⟨b, o, none⟩) l.length cap)).run Tryd.prog w := by
    rw [run_convert_bytes_string w 45 24 5 _ _ _ Tryd.underlying45 Tryd.underlying5 Tryd.underlying24,
      run_convert_bytes_string w 45 9 5 _ _ _ Tryd.underlying45 Tryd.underlying5 Tryd.underlying9]
  rw [e]
  exact run_conv_bytes h l o cap ho hl

set_option maxHeartbeats 1000000 in
set_option maxRecDepth 20000 in
theorem L_valid (s : ByteArray) (w : World) (hs : s.size ≤ maxLen) : Calls Tryd.prog 27 #[.string s] w fun e w' => e = .returned (.string (ofL (valL s))) ∧ Below w.heap.size w w' := by
  unfold maxLen at hs
  have B := Below.refl w.heap.size w
  go_enter Tryd.func27, Tryd.ntmps27
  go_wp2_with (first | (refine wpList_makeB32 rfl rfl ?_; intro b_b1 wn hle hge ht hbn hzn; have hsz := B.size; replace B := B.trans (hbn.mono (by omega)); have hln := Nat.lt_of_lt_of_eq (Nat.lt_succ_self _) hzn.symm; clear hzn; (try first | (have hlt := b1.lt; replace b1 := b1.of_eq (hbn.block _ (by omega))) | replace b1 := b1.below (hbn.mono hle)); have b1 := ht; clear ht; simp only [Act.put, List.setIfInBounds_toArray, List.set_cons_zero, List.set_cons_succ]))
  go_loopw [4] (fun i wr => ∃ k : Nat, k ≤ 32 ∧ i = .int .i64 k ∧ Below w.heap.size w wr ∧ BAt 5 32 wr b_b1 (stepF (valB s) k)) (fun i _ => (32 - intOf i).toNat)
  case atStart => exact ⟨0, by omega, rfl, B, b1⟩
  case round =>
    clear B b1
    obtain ⟨k, hk, rfl, B, b1⟩ := hrel
    by_cases hlt : k < 32
    · by_cases h0 : s.size = 0
      · have hfin : ∀ i, i < 32 → stepF (valB s) k i = valB s i := fun i hi => by unfold stepF valB; rw [if_pos h0]; split <;> rfl
        go_wp2_with ((refine wpList_convAny (s := 45) (d := 24) rfl _ rfl rfl (run_conv_digest b1 (valL s) 0 32 (by rw [valL_length]; omega) (fun i hi => by rw [valL_length] at hi; unfold valL; rw [List.getElem?_map, List.getElem?_range hi, Nat.zero_add]; exact congrArg some (hfin i hi).symm)) ?_; simp only [Act.put, List.setIfInBounds_toArray, List.set_cons_zero, List.set_cons_succ]))
        go_ret
        exact ⟨rfl, B⟩
      · have hpos : 0 < s.size := by omega
        have hmod : k % s.size < s.size := Nat.mod_lt _ hpos
        have ev : valB s k = byteAt s (k % s.size) := by unfold valB; rw [if_neg h0]
        have d0 : decide (0 < (s.size : Int)) = true := decide_eq_true (by omega)
        go_wp2_with (first | (refine wpList_storeY rfl _ _ rfl _ _ rfl _ rfl b1 (k) (by omega) (by first | rfl | omega) ?_; clear b1; intro wn ht hcn hzn; have hsz := B.size; replace hzn := Nat.le_of_eq hzn.symm; replace B := Chg.below B hcn (by omega) B.size; have b1 := ht; clear ht; simp only [Act.put, List.setIfInBounds_toArray, List.set_cons_zero, List.set_cons_succ]) | (refine wpList_indexS (t := 9) rfl _ _ rfl s rfl _ rfl (k % s.size) (by omega) (by omega) ?_; simp only [Act.put, List.setIfInBounds_toArray, List.set_cons_zero, List.set_cons_succ]))
        rw [← ev, stepF_next] at b1
        go_roundw
        case rel => exact ⟨k + 1, by omega, by go_num, B, b1⟩
        case measure => simp [intOf]; omega
    · obtain rfl : k = 32 := by omega
      have hfin : ∀ i, i < 32 → stepF (valB s) 32 i = valB s i := fun i hi => by unfold stepF; rw [if_pos hi]
      simp only [show ((32 : Nat) : Int) = 32 from rfl]
      go_wp2_with ((refine wpList_convAny (s := 45) (d := 24) rfl _ rfl rfl (run_conv_digest b1 (valL s) 0 32 (by rw [valL_length]; omega) (fun i hi => by rw [valL_length] at hi; unfold valL; rw [List.getElem?_map, List.getElem?_range hi, Nat.zero_add]; exact congrArg some (hfin i hi).symm)) ?_; simp only [Act.put, List.setIfInBounds_toArray, List.set_cons_zero, List.set_cons_succ]))
      go_ret
      exact ⟨rfl, B⟩
end Go.Proofs.YtpkonkkjihbgiaaDoor
