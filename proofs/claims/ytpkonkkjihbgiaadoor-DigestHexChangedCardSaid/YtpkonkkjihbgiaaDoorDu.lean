/- Contract of digest.Parse. -/
import Derived.Test.YtpkonkkjihbgiaaDoorDt
namespace Go.Proofs.YtpkonkkjihbgiaaDoor
open Go.RowKit Sha
set_option linter.unusedVariables false
set_option linter.unusedSimpArgs false

def nib (c : UInt8) : Int := Lib.indexByte digs c
theorem nib_bd (c : UInt8) : -1 ≤ nib c ∧ nib c < 16 := by
  have h : ∀ l : List UInt8, -1 ≤ Lib.indexByte l c ∧ Lib.indexByte l c < l.length := by
    intro l
    induction l with
    | nil => simp [Lib.indexByte]
    | cons b l ih =>
      unfold Lib.indexByte
      split
      · simp
      · split
        · simp; omega
        · rw [List.length_cons]; omega
  exact h digs
/-- The byte of two digits. -/
def pairB (a b : UInt8) : UInt8 := UInt8.ofNat ((nib a).toNat * 16 + (nib b).toNat)
def parseP (l : List UInt8) : Nat → List UInt8
  | 0 => []
  | k + 1 => parseP l k ++ [pairB (l.getD (2 * k) 0) (l.getD (2 * k + 1) 0)]
theorem parseP_next (l : List UInt8) (k : Nat) : parseP l (k + 1) = parseP l k ++ [pairB (l.getD (2 * k) 0) (l.getD (2 * k + 1) 0)] := rfl
theorem parseP_length (l : List UInt8) (k : Nat) : (parseP l k).length = k := by
  induction k with
  | zero => rfl
  | succ k ih => rw [parseP_next, List.length_append, ih]; rfl
/-- Are all characters digits? -/
def allHex (l : List UInt8) : Bool := decide (∀ j ∈ List.range l.length, 0 ≤ nib (l.getD j 0))
def parseOk (l : List UInt8) : Bool := decide (l.length = 64) && allHex l
def parseD (l : List UInt8) : List UInt8 := if parseOk l = true then parseP l 32 else []
def parseE (l : List UInt8) : Int := if parseOk l = true then 0 else 11
theorem parse_bad {l : List UInt8} (h : parseOk l = false) : parseD l = [] ∧ parseE l = 11 := by
  unfold parseD parseE
  rw [h]
  exact ⟨rfl, rfl⟩
theorem parse_good {l : List UInt8} (h : parseOk l = true) : parseD l = parseP l 32 ∧ parseE l = 0 := by
  unfold parseD parseE
  rw [h]
  exact ⟨rfl, rfl⟩
theorem bad_len {l : List UInt8} (h : l.length ≠ 64) : parseOk l = false := by
  unfold parseOk
  rw [decide_eq_false h]; rfl
theorem bad_at {l : List UInt8} {j : Nat} (hj : j < l.length) (h : nib (l.getD j 0) < 0) : parseOk l = false := by
  unfold parseOk allHex
  rw [Bool.and_eq_false_iff]
  right
  exact decide_eq_false fun e => by
    have := e j (List.mem_range.2 hj)
    omega
theorem good_all {l : List UInt8} (h64 : l.length = 64) (h : ∀ j, j < 64 → 0 ≤ nib (l.getD j 0)) : parseOk l = true := by
  unfold parseOk allHex
  rw [decide_eq_true h64, Bool.true_and]
  exact decide_eq_true fun j hj => h j (by have := List.mem_range.1 hj; omega)
theorem pair_val (a b : UInt8) (ha : 0 ≤ nib a) (hb : 0 ≤ nib b) (w : World) : (bits .or .i64 (nib a * 16) (nib b)) = ((pairB a b).toNat : Int) := by
  have h1 := nib_bd a
  have h2 := nib_bd b
  unfold pairB
  obtain ⟨x, hx⟩ := Int.eq_ofNat_of_zero_le ha
  obtain ⟨y, hy⟩ := Int.eq_ofNat_of_zero_le hb
  rw [hx, hy]
  have hx2 : x < 16 := by omega
  have hy2 : y < 16 := by omega
  have key : ∀ x : Fin 16, ∀ y : Fin 16, bits .or .i64 ((x.val : Int) * 16) (y.val : Int) = ((UInt8.ofNat ((((x.val : Nat) : Int)).toNat * 16 + (((y.val : Nat) : Int)).toNat)).toNat : Int) := by decide +kernel
  exact key ⟨x, hx2⟩ ⟨y, hy2⟩
theorem L_Nib (c : UInt8) (w : World) : Calls Tryd.prog 36 #[.string ⟨#[48, 49, 50, 51, 52, 53, 54, 55, 56, 57, 97, 98, 99, 100, 101, 102]⟩, Y c] w fun e w' => e = .returned (.int .i64 (nib c)) ∧ w = w' :=
  (L_IndexByte _ c w).mono fun e w' ⟨h1, h2⟩ => ⟨h1, h2.symm⟩
theorem L_WriteByteZ (B b : Nat) (l : List UInt8) (z : Int) (c : UInt8) (hz : z = (c.toNat : Int)) (w : World) (h : HoldsB B b l w) (hlen : l.length + 1 ≤ 140737488355328) (hBw : B ≤ w.heap.size) :
    Calls Tryd.prog 37 #[.pointer (some ⟨b, 0, none⟩), .int .u8 z] w fun e w' => e = .returned .nilIface ∧ HoldsB B b (l ++ [c]) w' ∧ Below B w w' := hz ▸ L_WriteByte B b l c w h hlen hBw

set_option maxHeartbeats 1000000 in
set_option maxRecDepth 20000 in
theorem P_Parse (l : List UInt8) (w : World) (hl : l.length < 1099511627776) : Calls Tryd.prog 22 #[.string (ofL l)] w fun e w' => e = .returned (.tuple #[.string (ofL (parseD l)), .int .i64 (parseE l)]) ∧ Below w.heap.size w w' := by
  have B := Below.refl w.heap.size w
  by_cases h : l.length = 64
  · have hL := Lib.hid h
    go_enter Tryd.func22, Tryd.ntmps22
    go_wp2_with (first | (refine wpList_allocB rfl rfl ?_; intro b_bd wn hle hge ht hbn hzn; have hsz := B.size; replace B := B.trans (hbn.mono (by omega)); have hln := Nat.lt_of_lt_of_eq (Nat.lt_succ_self _) hzn.symm; clear hzn; have bd := ht; clear ht; simp only [Act.put, List.setIfInBounds_toArray, List.set_cons_zero, List.set_cons_succ]))
    have hbd : w.heap.size ≤ b_bd := by omega
    go_loopw [5, 6, 7] (fun i _ _ wr => ∃ k : Nat, k ≤ 32 ∧ i = .int .i64 (2 * k) ∧ (∀ j, j < 2 * k → 0 ≤ nib (l.getD j 0)) ∧ Below w.heap.size w wr ∧ HoldsB b_bd b_bd (parseP l k) wr) (fun i _ _ _ => (64 - intOf i).toNat)
    case atStart => exact ⟨0, by omega, rfl, fun j hj => by omega, B, bd⟩
    case round =>
      clear B bd
      obtain ⟨k, hk, rfl, hok, B, bd⟩ := hrel
      have Hok := Lib.hid hok
      clear hok
      have hbl := bd.lt
      by_cases hlt : k < 32
      · go_wp2
        refine wp_region_ov (by kernel_rfl) (by kernel_rfl) ?_
        repeat (first | go_big_quiet_skip | (go_big_quiet_want; first | (refine quiet_indexS (t := 9) rfl (ofL l) rfl _ rfl (2 * k) (by rw [ofL_size]; omega) (by omega) ?_; simp only [Act.put, List.setIfInBounds_toArray, List.set_cons_zero, List.set_cons_succ]; go_big_quiet_on) | (refine quiet_indexS (t := 9) rfl (ofL l) rfl _ rfl (2 * k + 1) (by rw [ofL_size]; omega) (by omega) ?_; simp only [Act.put, List.setIfInBounds_toArray, List.set_cons_zero, List.set_cons_succ]; go_big_quiet_on) | (go_big_quiet_op; first | go_big_quiet_on | go_big_quiet_call ((first | (go_at_call 36; exact calls_ov_same (L_Nib _ _)))))))
        refine wpQuiet_nil ?_
        intro wn hbn
        have hsz := B.size
        have hzn := hbn.size
        replace B := B.trans (hbn.mono B.size)
        replace bd := bd.below hbn
        replace hbl := bd.lt
        have ea : l.getD (2 * k) 0 = byteAt (ofL l) (2 * k) := rfl
        have eb : l.getD (2 * k + 1) 0 = byteAt (ofL l) (2 * k + 1) := rfl
        have pn := parseP_next l k
        have bada := bad_at (l := l) (j := 2 * k) (by omega)
        have badb := bad_at (l := l) (j := 2 * k + 1) (by omega)
        rw [ea] at bada pn
        rw [eb] at badb pn
        have Ea := Lib.hid ea
        have Eb := Lib.hid eb
        have Pn := Lib.hid pn
        have Ba := Lib.hid bada
        have Bb := Lib.hid badb
        clear ea eb pn bada badb
        generalize byteAt (ofL l) (2 * k) = a at *
        generalize byteAt (ofL l) (2 * k + 1) = b at *
        obtain ⟨na0, na1⟩ := nib_bd a
        obtain ⟨nb0, nb1⟩ := nib_bd b
        by_cases ha : nib a < 0
        · have hb := Lib.hid (parse_bad (Ba.out ha))
          go_wp2
          go_ret2
          exact ⟨by rw [hb.out.1, hb.out.2]; rfl, B⟩
        · have da : decide (nib a < 0) = false := decide_eq_false ha
          by_cases hb : nib b < 0
          · have hb := Lib.hid (parse_bad (Bb.out hb))
            go_wp2
            go_ret2
            exact ⟨by rw [hb.out.1, hb.out.2]; rfl, B⟩
          · have db : decide (nib b < 0) = false := decide_eq_false hb
            have pv := pair_val a b (by omega) (by omega) w
            have hpb := (pairB a b).toNat_lt
            go_wp2_with ((go_at_call 37; refine (L_WriteByteZ b_bd b_bd _ _ (pairB a b) (by simp) _ bd (by rw [parseP_length]; omega) (Nat.le_of_lt bd.lt)).mono ?_; rintro e wn ⟨rfl, ht, hbn⟩; have hsz := B.size; have hzn := hbn.size; replace B := B.trans (hbn.mono (by omega)); replace bd := ht; clear ht))
            rw [← Pn.out] at bd
            go_roundw
            case rel => exact ⟨k + 1, by omega, by go_num, fun j hj => by
              by_cases e1 : j = 2 * k
              · rw [e1, Ea.out]; omega
              · by_cases e2 : j = 2 * k + 1
                · rw [e2, Eb.out]; omega
                · exact Hok.out j (by omega), B, bd⟩
            case measure => simp [intOf]; omega
      · obtain rfl : k = 32 := by omega
        have hg := Lib.hid (parse_good (good_all hL.out (fun j hj => Hok.out j (by omega))))
        go_wp2_with ((go_at_call 31; refine (L_String b_bd b_bd _ _ bd (Nat.le_of_lt bd.lt)).mono ?_; rintro e wn ⟨rfl, hbn⟩; replace B := B.trans (hbn.mono hbd)))
        go_ret2
        exact ⟨by rw [hg.out.1, hg.out.2]; rfl, B⟩
  · have hb := Lib.hid (parse_bad (bad_len h))
    have hne : ((l.length : Int) == 64) = false := by simp; omega
    go_enter Tryd.func22, Tryd.ntmps22
    go_wp2
    go_ret2
    exact ⟨by rw [hb.out.1, hb.out.2]; rfl, B⟩
end Go.Proofs.YtpkonkkjihbgiaaDoor
