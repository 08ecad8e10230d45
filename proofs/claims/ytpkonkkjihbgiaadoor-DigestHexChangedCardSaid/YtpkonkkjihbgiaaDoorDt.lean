/- Contracts of digest.Valid and digest.Hex. -/
import Derived.Test.YtpkonkkjihbgiaaDoorDr
namespace Go.Proofs.YtpkonkkjihbgiaaDoor
open Go.RowKit Sha
set_option linter.unusedVariables false
set_option linter.unusedSimpArgs false

def digs : List UInt8 := [48, 49, 50, 51, 52, 53, 54, 55, 56, 57, 97, 98, 99, 100, 101, 102]
def hexD (b : UInt8) : UInt8 := digs.getD b.toNat 0
def hexB (l : List UInt8) : Nat → List UInt8
  | 0 => []
  | k + 1 => hexB l k ++ [hexD (l.getD k 0 >>> 4)] ++ [hexD (l.getD k 0 &&& 15)]
theorem hexB_next (l : List UInt8) (k : Nat) : hexB l (k + 1) = hexB l k ++ [hexD (l.getD k 0 >>> 4)] ++ [hexD (l.getD k 0 &&& 15)] := rfl
theorem hexB_length (l : List UInt8) (k : Nat) : (hexB l k).length = 2 * k := by
  induction k with
  | zero => rfl
  | succ k ih => rw [hexB_next, List.length_append, List.length_append, ih]; rfl
/-- What Hex returns. -/
def hexL (l : List UInt8) : List UInt8 := if l.length = 32 then hexB l 32 else []
section
variable (w : World) (b : UInt8)
@[go_sem] theorem Y_shr4 : (binOp .shr 5 (Y b) (.int .u64 4)).run Tryd.prog w = .ok (Y (b >>> 4)) w := by
  have e : ∀ b : UInt8, ((b >>> 4).toNat : Int) = (b.toNat : Int) / 16 := fun b => by
    rw [UInt8.toNat_shiftRight]
    show ((b.toNat >>> 4 : Nat) : Int) = _
    rw [Nat.shiftRight_eq_div_pow]
    rfl
  unfold Y
  rw [e]
  simp [go_sem]
@[go_sem] theorem Y_and15 : (binOp .and 5 (Y b) (.int .u8 15)).run Tryd.prog w = .ok (Y (b &&& 15)) w := by
  have e : (binOp .and 5 (Y b) (.int .u8 15)).run Tryd.prog w = .ok (.int .u8 (IntKind.u8.wrap ((BitVec.ofInt 8 (b.toNat : Int) &&& BitVec.ofInt 8 15).toNat : Int))) w := by kernel_rfl
  rw [e]
  have h : BitVec.ofInt 8 (b.toNat : Int) = b.toBitVec := by
    apply BitVec.eq_of_toNat_eq
    simp [BitVec.toNat_ofInt]
  rw [h]
  show _ = Result.ok (Value.int .u8 ((b &&& 15).toNat : Int)) w
  congr 2
  have h2 : (b &&& 15).toNat = (b.toBitVec &&& BitVec.ofInt 8 15).toNat := rfl
  rw [h2]
  have h3 : b.toNat &&& 15 ≤ 15 := Nat.and_le_right
  simp only [IntKind.wrap, IntKind.bits, IntKind.signed]
  simp
  omega
@[go_sem] theorem guardY_shr (t : TypeId) (p q : Operand) (v : Value) : (eqGuard .shr t p q (Y b) v).run Tryd.prog w = .ok () w := by
  unfold Y; simp [go_sem]
@[go_sem] theorem guardY_and (t : TypeId) (p q : Operand) (v : Value) : (eqGuard .and t p q (Y b) v).run Tryd.prog w = .ok () w := by
  unfold Y; simp [go_sem]
theorem run_index_digs (t : TypeId) (ht : Tryd.prog.underlying t = some .string) (h : b.toNat < 16) : (Instr.index t (.string ⟨#[48, 49, 50, 51, 52, 53, 54, 55, 56, 57, 97, 98, 99, 100, 101, 102]⟩) (Y b)).run Tryd.prog w = .ok (Y (hexD b)) w := by
  unfold Y
  have hs : (⟨#[48, 49, 50, 51, 52, 53, 54, 55, 56, 57, 97, 98, 99, 100, 101, 102]⟩ : ByteArray).size = 16 := rfl
  rw [run_index_string w t _ .u8 (b.toNat : Int) ht, dif_pos ⟨by omega, by omega⟩]
  simp only [Int.toNat_natCast]
  rw [byteAt_get _ b.toNat (by omega)]
  rfl
theorem shr4_lt : (b >>> 4).toNat < 16 := by
  have := b.toNat_lt
  rw [UInt8.toNat_shiftRight]
  show b.toNat >>> 4 < 16
  rw [Nat.shiftRight_eq_div_pow]
  omega
theorem and15_lt : (b &&& 15).toNat < 16 := by
  rw [UInt8.toNat_and]
  exact Nat.lt_of_le_of_lt Nat.and_le_right (by decide)
@[go_sem] theorem digs_hi : (Instr.index 9 (.string ⟨#[48, 49, 50, 51, 52, 53, 54, 55, 56, 57, 97, 98, 99, 100, 101, 102]⟩) (Y (b >>> 4))).run Tryd.prog w = .ok (Y (hexD (b >>> 4))) w := run_index_digs w _ _ Tryd.underlying9 (shr4_lt b)
@[go_sem] theorem digs_lo : (Instr.index 9 (.string ⟨#[48, 49, 50, 51, 52, 53, 54, 55, 56, 57, 97, 98, 99, 100, 101, 102]⟩) (Y (b &&& 15))).run Tryd.prog w = .ok (Y (hexD (b &&& 15))) w := run_index_digs w _ _ Tryd.underlying9 (and15_lt b)
end
section
variable {ops : Array Oper} {rest : List Oper} {o : Oper} {a : Act} {w : World} {Q : Exit → Act → World → Prop}
theorem wpList_indexS {t : TypeId} (hg : o.guard = none) (x i : Operand) (ho : o.op = .index t x i) (s : ByteArray) (hx : a.eval x = .string s) (j : Int) (hi : a.eval i = .int .i64 j) (m : Nat) (hm : m < s.size) (hj : j = m)
    (h : wpList Tryd.prog ops Q rest (a.put o.dst (Y (byteAt s m))) w) (ht : Tryd.prog.underlying t = some .string := by kernel_rfl) : wpList Tryd.prog ops Q (o :: rest) a w :=
  wpList_plain hg fun K hK => by
    subst hj
    unfold Oper.wp execOp
    simp only [ho, hx, hi, run_indexS t ht s m hm w, Sem.run_bind, Sem.run_pure, Result.andThen_ok]
    exact hK _ _ h
end

theorem P_Valid (l : List UInt8) (w : World) (hl : l.length < 1099511627776) : Calls Tryd.prog 26 #[.string (ofL l)] w fun e w' => e = .returned (.bool (decide (l.length = 32))) ∧ w = w' := by
  by_cases h : l.length = 32
  · go_enter Tryd.func26, Tryd.ntmps26
    go_wp2
    go_ret
    exact ⟨by rw [decide_eq_true h]; simp [h], rfl⟩
  · have h2 : ((l.length : Int) == 32) = false := by simp; omega
    go_enter Tryd.func26, Tryd.ntmps26
    go_wp2
    go_ret
    exact ⟨by rw [decide_eq_false h]; simp [h2], rfl⟩

set_option maxHeartbeats 1000000 in
set_option maxRecDepth 20000 in
theorem P_Hex (l : List UInt8) (w : World) (hl : l.length < 1099511627776) : Calls Tryd.prog 24 #[.string (ofL l)] w fun e w' => e = .returned (.string (ofL (hexL l))) ∧ Below w.heap.size w w' := by
  have B := Below.refl w.heap.size w
  by_cases h : l.length = 32
  · have e1 : hexL l = hexB l 32 := by unfold hexL; rw [if_pos h]
    have d1 : decide (l.length = 32) = true := decide_eq_true h
    rw [e1]; clear e1
    go_enter Tryd.func24, Tryd.ntmps24
    go_wp2_with (first | (refine wpList_allocB rfl rfl ?_; intro b_bd wn hle hge ht hbn hzn; have hsz := B.size; replace B := B.trans (hbn.mono (by omega)); have hln := Nat.lt_of_lt_of_eq (Nat.lt_succ_self _) hzn.symm; clear hzn; have bd := ht; clear ht; simp only [Act.put, List.setIfInBounds_toArray, List.set_cons_zero, List.set_cons_succ]) | (go_at_call 26; refine (P_Valid _ _ (by omega)).mono ?_; rintro e wq ⟨rfl, rfl⟩))
    have hbd : w.heap.size ≤ b_bd := by omega
    go_loopw [4, 8] (fun _ i wr => ∃ k : Nat, k ≤ 32 ∧ i = .int .i64 k ∧ Below w.heap.size w wr ∧ HoldsB b_bd b_bd (hexB l k) wr) (fun _ i _ => (32 - intOf i).toNat)
    case atStart => exact ⟨0, by omega, rfl, B, bd⟩
    case round =>
      clear B bd
      obtain ⟨k, hk, rfl, B, bd⟩ := hrel
      have hbl := bd.lt
      by_cases hlt : k < 32
      · go_wp2_with (first | (go_at_call 37; refine (L_WriteByte b_bd b_bd _ _ _ bd (by simp [hexB_length]; omega) (Nat.le_of_lt bd.lt)).mono ?_; rintro e wn ⟨rfl, ht, hbn⟩; have hsz := B.size; have hzn := hbn.size; replace B := B.trans (hbn.mono (by omega)); replace bd := ht; clear ht) | (refine wpList_indexS (t := 24) rfl _ _ rfl (ofL l) rfl _ rfl k (by rw [ofL_size]; omega) (by first | rfl | omega) ?_; simp only [Act.put, List.setIfInBounds_toArray, List.set_cons_zero, List.set_cons_succ]))
        rw [show byteAt (ofL l) k = l.getD k 0 from rfl, ← hexB_next] at bd
        go_roundw
        case rel => exact ⟨k + 1, by omega, by go_num, B, bd⟩
        case measure => simp [intOf]; omega
      · obtain rfl : k = 32 := by omega
        go_wp2_with ((go_at_call 31; refine (L_String b_bd b_bd _ _ bd (Nat.le_of_lt bd.lt)).mono ?_; rintro e wn ⟨rfl, hbn⟩; replace B := B.trans (hbn.mono hbd)))
        go_ret
        exact ⟨rfl, B⟩
  · have e1 : hexL l = [] := by unfold hexL; rw [if_neg h]
    have d1 : decide (l.length = 32) = false := decide_eq_false h
    rw [e1]; clear e1
    go_enter Tryd.func24, Tryd.ntmps24
    go_wp2_with ((go_at_call 26; refine (P_Valid _ _ (by omega)).mono ?_; rintro e wq ⟨rfl, rfl⟩))
    go_ret
    exact ⟨rfl, B⟩
end Go.Proofs.YtpkonkkjihbgiaaDoor
