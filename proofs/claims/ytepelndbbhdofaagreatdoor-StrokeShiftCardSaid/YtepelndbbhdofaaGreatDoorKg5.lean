/- StrokeShift: for every made stroke and every shift by whole pixels, the dabs, their coverage and the painted pixels are shifted: the law returns true for every input, and its arguments read as they did; what the listed variable holds is tied to the program's text. No other condition. -/
import Derived.Test.YtepelndbbhdofaaGreatDoorKg4
import Derived.SizedLaws
import Derived.ChangeSlices
import Derived.Test.YtepelndbbhdofaaGreatDoorTie
import Derived.Test.YtepelndbbhdofaaGreatDoorCards
import Derived.ProofKit
import Derived.OpenShut
import Derived.LaidMore
import Derived.Stop.Joined
import Derived.Stop.LaidErr
import Derived.Lib.LaidTab
import Derived.Lib.SmallJoins
import Derived.SevenTiedAt

/- Contract of Read of package stroke. -/
namespace Go.Proofs.YtepelndbbhdofaaGreatDoor
open Go.RowKit Sha Pl
set_option linter.unusedVariables false
set_option linter.unusedSimpArgs false
set_option maxRecDepth 20000
/-! ### The states of the reader -/
def rdQ (l : List UInt8) (st : Nat × Bool) : Sp × (Nat × Bool) := (⟨(beN (rdT l st 3).1 : Int) - 1048576, (beN (rdT l (rdT l st 3).2 3).1 : Int) - 1048576, (beN (rdT l (rdT l (rdT l st 3).2 3).2 1).1 : Int)⟩, (rdT l (rdT l (rdT l st 3).2 3).2 1).2)
def rdK (l : List UInt8) : Nat → List Sp × (Nat × Bool)
 | 0 => ([], (rdT l (0, false) 1).2)
 | k + 1 => ((rdK l k).1 ++ [(rdQ l (rdK l k).2).1], (rdQ l (rdK l k).2).2)
theorem rdK_len (l : List UInt8) : ∀ k, (rdK l k).1.length = k
 | 0 => rfl
 | k + 1 => by
  show ((rdK l k).1 ++ [_]).length = _
  rw [List.length_append, rdK_len l k]
  rfl
theorem rdQ_in {l : List UInt8} {st : Nat × Bool} (h : (rdQ l st).2.2 = false) : st.2 = false ∧ (rdQ l st).2.1 = st.1 + 7 ∧ st.1 + 7 ≤ l.length := by
 obtain ⟨a1, a2, a3⟩ := rdT_in (l := l) (m := 1) h
 obtain ⟨b1, b2, b3⟩ := rdT_in a1
 obtain ⟨c1, c2, c3⟩ := rdT_in b1
 refine ⟨c1, ?_, ?_⟩
 ·show (rdT l (rdT l (rdT l st 3).2 3).2 1).2.1 = _
  rw [a2, b2, c2]
 ·rw [b2, c2] at a3
  omega
theorem rdK_in (l : List UInt8) : ∀ k, (rdK l k).2.2 = false → (rdK l k).2.1 = 1 + 7 * k ∧ 1 + 7 * k ≤ l.length
 | 0, h => by
  obtain ⟨_, a2, a3⟩ := rdT_in (l := l) (st := (0, false)) (m := 1) h
  exact ⟨by show (rdT l (0, false) 1).2.1 = _; rw [a2], by simpa using a3⟩
 | k + 1, h => by
  obtain ⟨a1, a2, a3⟩ := rdQ_in (l := l) h
  obtain ⟨b1, b2⟩ := rdK_in l k a1
  refine ⟨?_, ?_⟩
  ·show (rdQ l (rdK l k).2).2.1 = _
   rw [a2, b1]
   omega
  ·rw [b1] at a3
   omega
theorem rdQ_le {l : List UInt8} {st : Nat × Bool} (h : st.1 ≤ l.length) : (rdQ l st).2.1 ≤ l.length := rdT_le (rdT_le (rdT_le h))
theorem rdK_le (l : List UInt8) : ∀ k, (rdK l k).2.1 ≤ l.length
 | 0 => rdT_le (Nat.zero_le _)
 | k + 1 => rdQ_le (rdK_le l k)
theorem rdQ_ok {l : List UInt8} {k : Nat} (h : 8 + 7 * k ≤ l.length) : rdQ l (1 + 7 * k, false) = (parP l k, (1 + 7 * (k + 1), false)) := by
 unfold rdQ
 rw [rdT_ok (by omega)]
 simp only
 rw [rdT_ok (by omega)]
 simp only
 rw [rdT_ok (by omega)]
 simp only
 unfold parP
 rw [show 1 + 7 * k + 3 = 4 + 7 * k by omega, show 4 + 7 * k + 3 = 7 + 7 * k by omega, show 7 + 7 * k + 1 = 1 + 7 * (k + 1) by omega]
theorem rdK_ok (l : List UInt8) : ∀ k, 1 + 7 * k ≤ l.length → rdK l k = ((List.range k).map (parP l), (1 + 7 * k, false))
 | 0, h => by
  show ([], (rdT l (0, false) 1).2) = _
  rw [rdT_ok (by omega)]
  rfl
 | k + 1, h => by
  show ((rdK l k).1 ++ [(rdQ l (rdK l k).2).1], (rdQ l (rdK l k).2).2) = _
  rw [rdK_ok l k (by omega)]
  simp only
  rw [rdQ_ok (by omega), List.range_succ, List.map_append]
  rfl
theorem rd_first (l : List UInt8) : beN (rdT l (0, false) 1).1 = parN l := by
 unfold parN
 by_cases h : 0 + 1 ≤ l.length
 ·rw [rdT_ok h]
 ·have : l = [] := List.length_eq_zero_iff.1 (by omega)
  subst this
  rfl
/-- What the reader takes behind the points. -/
structure Tl (l : List UInt8) (st : Nat × Bool) (a b c d e : List UInt8) (s1 s2 s3 s4 s5 : Nat × Bool) : Prop where
 h1 : rdT l st 2 = (a, s1)
 h2 : rdT l s1 2 = (b, s2)
 h3 : rdT l s2 4 = (c, s3)
 h4 : rdT l s3 1 = (d, s4)
 h5 : rdT l s4 3 = (e, s5)
theorem tl_made (l : List UInt8) (st : Nat × Bool) : ∃ a b c d e s1 s2 s3 s4 s5, Tl l st a b c d e s1 s2 s3 s4 s5 := ⟨_, _, _, _, _, _, _, _, _, _, ⟨rfl, rfl, rfl, rfl, rfl⟩⟩
theorem Tl.bad {l : List UInt8} {k : Nat} {a b c d e : List UInt8} {s1 s2 s3 s4 s5 : Nat × Bool} (h : Tl l (rdK l k).2 a b c d e s1 s2 s3 s4 s5) (hl : l.length < 13 + 7 * k) : s5.2 = true := by
 cases hs : s5.2 with
 | true => rfl
 | false =>
  obtain ⟨a1, a2, a3⟩ := rdT_in (l := l) (st := s4) (m := 3) (by rw [h.h5]; exact hs)
  obtain ⟨b1, b2, b3⟩ := rdT_in (l := l) (st := s3) (m := 1) (by rw [h.h4]; exact a1)
  obtain ⟨c1, c2, c3⟩ := rdT_in (l := l) (st := s2) (m := 4) (by rw [h.h3]; exact b1)
  obtain ⟨d1, d2, d3⟩ := rdT_in (l := l) (st := s1) (m := 2) (by rw [h.h2]; exact c1)
  obtain ⟨e1, e2, e3⟩ := rdT_in (l := l) (st := (rdK l k).2) (m := 2) (by rw [h.h1]; exact d1)
  rw [h.h4] at b2
  rw [h.h3] at c2
  rw [h.h2] at d2
  rw [h.h1] at e2
  have f := (rdK_in l k e1).1
  simp only at b2 c2 d2 e2
  omega
theorem Tl.good {l : List UInt8} {k : Nat} {a b c d e : List UInt8} {s1 s2 s3 s4 s5 : Nat × Bool} (h : Tl l (rdK l k).2 a b c d e s1 s2 s3 s4 s5) (hl : 13 + 7 * k ≤ l.length) : s5.2 = false ∧ a = subL l (1 + 7 * k) 2 ∧ b = subL l (3 + 7 * k) 2 ∧ c = subL l (5 + 7 * k) 4 ∧ d = subL l (9 + 7 * k) 1 ∧ e = subL l (10 + 7 * k) 3 := by
 have h1 := h.h1
 rw [rdK_ok l k (by omega)] at h1
 simp only at h1
 rw [rdT_ok (by omega)] at h1
 injection h1 with e1 e2
 have h2 := h.h2
 rw [← e2, rdT_ok (by omega)] at h2
 injection h2 with e3 e4
 have h3 := h.h3
 rw [← e4, rdT_ok (by omega)] at h3
 injection h3 with e5 e6
 have h4 := h.h4
 rw [← e6, rdT_ok (by omega)] at h4
 injection h4 with e7 e8
 have h5 := h.h5
 rw [← e8, rdT_ok (by omega)] at h5
 injection h5 with e9 e10
 rw [← e1, ← e3, ← e5, ← e7, ← e9, ← e10]
 refine ⟨rfl, rfl, ?_, ?_, ?_, ?_⟩ <;> (congr 1; omega)
theorem Tl.le {l : List UInt8} {st : Nat × Bool} {a b c d e : List UInt8} {s1 s2 s3 s4 s5 : Nat × Bool} (h : Tl l st a b c d e s1 s2 s3 s4 s5) (h0 : st.1 ≤ l.length) : s1.1 ≤ l.length ∧ s2.1 ≤ l.length ∧ s3.1 ≤ l.length ∧ s4.1 ≤ l.length := by
 have a1 := rdT_le (m := 2) h0
 rw [h.h1] at a1
 have a2 := rdT_le (m := 2) a1
 rw [h.h2] at a2
 have a3 := rdT_le (m := 4) a2
 rw [h.h3] at a3
 have a4 := rdT_le (m := 1) a3
 rw [h.h4] at a4
 exact ⟨a1, a2, a3, a4⟩
theorem beN_lt3 {l : List UInt8} {st : Nat × Bool} {m : Nat} (hm : m ≤ 3) : beN (rdT l st m).1 < 16777216 :=
 Nat.lt_of_lt_of_le (beN_lt _) (by rw [show (16777216 : Nat) = 256 ^ 3 from rfl]; exact Nat.pow_le_pow_right (by omega) (Nat.le_trans rdT_len hm))
/-- A colour stored into a stroke. -/
theorem wpList_stCol {ops : Array Oper} {rest : List Oper} {o : Oper} {a : Act} {w : World} {Q : Exit → Act → World → Prop} (hg : o.guard = none) (x y : Operand) (ho : o.op = .store 28 x y) (b : Nat) (hx : a.eval x = .pointer (some ⟨b, 3, none⟩)) (q : Px) (hy : a.eval y = .agg #[.int .u8 q.r, .int .u8 q.g, .int .u8 q.b, .int .u8 q.a]) {v : Value} {s : Stk} (ht : AtB 30 w b (stC v s))
  (h : ∀ w', AtB 30 w' b (stC v { s with col := q }) → Chg b w w' → w'.heap.size = w.heap.size → wpList Tryz.prog ops Q rest (a.put o.dst undef) w') : wpList Tryz.prog ops Q (o :: rest) a w := by
 have c3 : w.cell? ⟨b, 3, none⟩ = some (.int .u8 s.col.r) := ht.cell 3 rfl
 have c4 : w.cell? ⟨b, 4, none⟩ = some (.int .u8 s.col.g) := ht.cell 4 rfl
 have c5 : w.cell? ⟨b, 5, none⟩ = some (.int .u8 s.col.b) := ht.cell 5 rfl
 have c6 : w.cell? ⟨b, 6, none⟩ = some (.int .u8 s.col.a) := ht.cell 6 rfl
 have hf := fun j => AtB.frozen ht j
 refine wpList_storeAny hg x y ho ((((w.setCell ⟨b, 3, none⟩ (.int .u8 q.r)).setCell ⟨b, 4, none⟩ (.int .u8 q.g)).setCell ⟨b, 5, none⟩ (.int .u8 q.b)).setCell ⟨b, 6, none⟩ (.int .u8 q.a)) ?_ (h _ ?_ (((((Chg.refl b w).setCell _).setCell _).setCell _).setCell _) (by simp only [World.size_setCell]))
 ·rw [hx, hy]
  simp [go_sem, c3, c4, c5, c6, hf]
 ·exact heap_setCell_same _ b 6 _ _ (.int .u8 q.a) (heap_setCell_same _ b 5 _ _ (.int .u8 q.b) (heap_setCell_same _ b 4 _ _ (.int .u8 q.g) (heap_setCell_same _ b 3 _ _ (.int .u8 q.r) ht)))
/- Contract of Read of package stroke. -/
theorem str_beqY (s t : ByteArray) : (s.toList == t.toList) = decide (s = t) := by
 rw [ByteArray.toList_eq, ByteArray.toList_eq]
 by_cases h : s = t
 ·rw [decide_eq_true h, h]; simp
 ·rw [decide_eq_false h, beq_eq_false_iff_ne]
  exact fun e => h (by rw [← ofL_bytes s, ← ofL_bytes t]; exact congrArg ofL e)
theorem ofL_inj {a b : List UInt8} : ofL a = ofL b ↔ a = b := ⟨fun e => congrArg bytes e, fun e => by rw [e]⟩
theorem run_neqY (A B : List UInt8) (w : World) : (binOp .neq 9 (.string (ofL A)) (.string (ofL B))).run Tryz.prog w = .ok (.bool (!decide (A = B))) w := by
 have h : decide (ofL A = ofL B) = decide (A = B) := by
  by_cases e : A = B
  ·rw [decide_eq_true e, decide_eq_true (ofL_inj.2 e)]
  ·rw [decide_eq_false e, decide_eq_false (fun k => e (ofL_inj.1 k))]
 simp [go_sem, str_beqY, h]
theorem run_eqgN (t : TypeId) (x y : Operand) (A B : List UInt8) (w : World) : (eqGuard BinOp.neq t x y (.string (ofL A)) (.string (ofL B))).run Tryz.prog w = .ok () w := by first | rfl | simp [go_sem, eqGuard]
theorem quiet_neqY {o : Oper} {a : Act} {C : World → Prop} {K : Act → Prop} {x y : Operand} (h : o.op = .binOp .neq 9 x y 9) (A B : List UInt8) (hx : a.eval x = .string (ofL A)) (hy : a.eval y = .string (ofL B)) (z : Bool) (hz : (!decide (A = B)) = z) (hk : K (a.put o.dst (.bool z))) : o.quiet Tryz.prog a C K := by
 subst hz
 exact ⟨_, fun w hw => by unfold Oper.quietAt execOp; simp only [h, hx, hy, run_eqgN, run_neqY A B w, Sem.run_bind, Sem.run_pure, Result.andThen_ok]; exact ⟨rfl, rfl⟩, hk⟩
set_option maxHeartbeats 8000000 in
theorem P_ReadS (l : List UInt8) (S : Stk) (E : Int) (w : World) (hl : l.length ≤ 100000000) (e : readL l = (S, E)) : Calls Tryz.prog 34 #[.string (ofL l)] w fun e w' => ∃ v, e = .returned (.tuple #[.agg (stC v S), .int .i64 E]) ∧ RSE spE v S.pts w' ∧ Below w.heap.size w w' := by
 have B := Below.refl w.heap.size w
 have HE := Lib.hid e
 clear e
 obtain ⟨⟨x0, i0, f0⟩, hx0⟩ : ∃ t, rdT l (0, false) 1 = t := ⟨_, rfl⟩
 have hn0 : beN x0 = parN l := by rw [← rd_first, hx0]
 have h00 : rdK l 0 = ([], (i0, f0)) := by show ([], (rdT l (0, false) 1).2) = _; rw [hx0]
 have HX0 := Lib.hid hx0
 have H00 := Lib.hid h00
 clear hx0 h00
 have hpn : parN l < 256 := by have := beN_lt (subL l 0 1); unfold parN; exact Nat.lt_of_lt_of_le this (by rw [show (256 : Nat) = 256 ^ 1 from rfl]; exact Nat.pow_le_pow_right (by omega) (by unfold subL; rw [List.length_take]; omega))
 obtain ⟨n, hn⟩ : ∃ n, parN l = n := ⟨_, rfl⟩
 rw [hn] at hn0 hpn
 have HN := Lib.hid hn
 clear hn
 go_enter Tryz.func34, Tryz.ntmps34
 go_upto_region 0 with fail
 refine wp_region_lit ?_
 try simp only [gelS]
 (refine wpList_allocBk (t := 30) rfl _ (run_alloc_St _ _ rfl) (alK B ?_); clear B; intro b_r2 wn hle hge r2 hbn hsz hln B; simp only [putS])
 refine chk 1 ?_
 refine wpList_nil ?_
 have k1 : w.heap.size ≤ b_r2 := by omega
 have hr2 := r2.lt
 go_upto_region 1 with fail
 refine wp_region_lit ?_
 try simp only [gelS]
 refine chk 1 ?_
 refine clF (enters_of Tryz.func86 (by kernel_rfl) rfl) (c := P_ReadO l _) (h := ?_)
 rintro e wn ⟨b_rd, hb_rd, rfl, rd, hbn⟩
 have hsz := B.size
 have hzn := hbn.size
 replace B := B.trans (hbn.mono B.size)
 (try replace r2 := r2.below hbn)
 refine ⟨_, rfl, ?_⟩
 simp only [putS]
 refine chk 1 ?_
 refine wpList_nil ?_
 have k2 : b_r2 < b_rd := by omega
 have hrd := rd.lt
 go_upto_region 2 with fail
 refine wp_region_lit ?_
 try simp only [gelS]
 (refine wpList_allocBk (t := 30) rfl _ (run_alloc_St _ _ rfl) (alK B ?_); clear B; intro b_t5 wn hle hge t5 hbn hsz hln B; (try have hlt := r2.lt); (try replace r2 := r2.below (hbn.mono hle)); (try have hlt := rd.lt); (try replace rd := rd.below (hbn.mono hle)); simp only [putS])
 refine wpList_nil ?_
 have k3 : b_rd < b_t5 := by omega
 have ht5 := t5.lt
 obtain ⟨b1, hb1⟩ : ∃ n, n = wn.heap.size := ⟨_, rfl⟩
 have k4 : b_t5 < b1 := by omega
 have k5 : b1 ≤ wn.heap.size := by omega
 clear hb1 hr2 hrd ht5
 have od : OwnE spE b1 (.slice none 0 0) [] wn := OwnE.nil b1 wn
 replace t5 : AtB 30 _ b_t5 (stC (.slice none 0 0) zSt) := t5
 go_upto_region 3 with fail
 refine wp_region_lit ?_
 try simp only [gelS]
 refine chk 1 ?_
 refine clF (enters_of Tryz.func87 (by kernel_rfl) rfl) (c := P_NumO1 l 0 false b_rd x0 i0 f0 _ rd hl (Nat.zero_le _) HX0.out) (h := ?_)
 rintro e wn ⟨rfl, rd2, hcn⟩
 have hsz := B.size
 have hzn := hcn.size
 replace B := Chg.below B hcn (by omega) B.size
 replace r2 := r2.of_eq (hcn.block _ r2.lt (by omega))
 replace t5 := t5.of_eq (hcn.block _ t5.lt (by omega))
 replace od := od.chg hcn (by omega)
 clear rd
 have rd := rd2
 clear rd2
 refine ⟨_, rfl, ?_⟩
 simp only [putS]
 refine chk 1 ?_
 refine wpList_nil ?_
 rw [hn0]
 have k6 : b1 ≤ wn.heap.size := by omega
 clear k5
 go_wp2
 go_loopw [6, 7, 13] (fun _ _ iv wr => ∃ (k i : Nat) (fl : Bool) (P : List Sp) (ap : Option Addr) (cp : Nat), k ≤ n ∧ iv = .int .i64 (k : Int) ∧ Hid (rdK l k = (P, (i, fl))) ∧ Below w.heap.size w wr ∧ b1 ≤ wr.heap.size ∧ AtB 180 wr b_rd (RdC l i fl) ∧ AtB 30 wr b_r2 #[.slice none 0 0, .int .i64 0, .int .i64 0, .int .u8 0, .int .u8 0, .int .u8 0, .int .u8 0, .bool false, .int .i64 0] ∧ AtB 30 wr b_t5 (stC (.slice ap P.length cp) zSt) ∧ OwnE spE b1 (.slice ap P.length cp) P wr) (fun _ _ iv _ => (n - intOf iv).toNat)
 case atStart => exact ⟨0, i0, f0, [], none, 0, by omega, rfl, H00, B, k6, rd, r2, t5, od⟩
 case round =>
  clear B k6 rd r2 t5 od HX0 H00
  obtain ⟨k, i, fl, P, ap, cp, hk, rfl, HK, B, k6, rd, r2, t5, od⟩ := hrel
  have hPn : P.length = k := by have := rdK_len l k; rw [HK.out] at this; exact this
  have hi := rdK_le l k
  rw [HK.out] at hi
  simp only at hi
  by_cases hkn : k < n
  ·have q1 : decide ((k : Int) < (n : Int)) = true := decide_eq_true (by omega)
   have q2 : decide (k < n) = true := decide_eq_true hkn
   have hst : rdK l (k + 1) = (P ++ [(rdQ l (i, fl)).1], (rdQ l (i, fl)).2) := by
    show ((rdK l k).1 ++ [(rdQ l (rdK l k).2).1], (rdQ l (rdK l k).2).2) = _
    rw [HK.out]
   unfold rdQ at hst
   obtain ⟨⟨xa, ia, fa⟩, hxa⟩ : ∃ t, rdT l (i, fl) 3 = t := ⟨_, rfl⟩
   have la := rdT_le (m := 3) (st := (i, fl)) hi
   have na := beN_lt3 (l := l) (st := (i, fl)) (m := 3) (by omega)
   rw [hxa] at hst la na
   simp only at hst la na
   obtain ⟨⟨xb, ib, fb⟩, hxb⟩ : ∃ t, rdT l (ia, fa) 3 = t := ⟨_, rfl⟩
   have lb := rdT_le (m := 3) (st := (ia, fa)) la
   have nb := beN_lt3 (l := l) (st := (ia, fa)) (m := 3) (by omega)
   rw [hxb] at hst lb nb
   simp only at hst lb nb
   obtain ⟨⟨xc, ic, fc⟩, hxc⟩ : ∃ t, rdT l (ib, fb) 1 = t := ⟨_, rfl⟩
   have nc := beN_lt3 (l := l) (st := (ib, fb)) (m := 1) (by omega)
   rw [hxc] at hst nc
   simp only at hst nc
   have HA := Lib.hid hxa
   have HB := Lib.hid hxb
   have HC := Lib.hid hxc
   have HST := Lib.hid hst
   clear hxa hxb hxc hst HK
   obtain ⟨na_, hna⟩ : ∃ n, beN xa = n := ⟨_, rfl⟩
   obtain ⟨nb_, hnb⟩ : ∃ n, beN xb = n := ⟨_, rfl⟩
   obtain ⟨nc_, hnc⟩ : ∃ n, beN xc = n := ⟨_, rfl⟩
   rw [hna] at na
   rw [hnb] at nb
   rw [hnc] at nc
   rw [hna, hnb, hnc] at HST
   go_upto_region 4 with fail
   refine wp_region_lit ?_
   try simp only [gelS]
   refine chk 1 ?_
   refine wpList_nil ?_
   go_upto_region 5 with fail
   refine wp_region_lit ?_
   try simp only [gelS]
   refine chk 1 ?_
   refine clF (enters_of Tryz.func87 (by kernel_rfl) rfl) (c := P_NumO3 l i fl b_rd xa ia fa _ rd hl hi HA.out) (h := ?_)
   rintro e wn ⟨rfl, rd2, hcn⟩
   have hsz := B.size
   have hzn := hcn.size
   replace B := Chg.below B hcn (by omega) B.size
   replace r2 := r2.of_eq (hcn.block _ r2.lt (by omega))
   replace t5 := t5.of_eq (hcn.block _ t5.lt (by omega))
   replace od := od.chg hcn (by omega)
   clear rd
   have rd := rd2
   clear rd2
   rw [hna]
   refine ⟨_, rfl, ?_⟩
   simp only [putS]
   refine chk 2 ?_
   refine clF (enters_of Tryz.func87 (by kernel_rfl) rfl) (c := P_NumO3 l ia fa b_rd xb ib fb _ rd hl la HB.out) (h := ?_)
   rintro e wn ⟨rfl, rd2, hcn⟩
   have hsz := B.size
   have hzn := hcn.size
   replace B := Chg.below B hcn (by omega) B.size
   replace r2 := r2.of_eq (hcn.block _ r2.lt (by omega))
   replace t5 := t5.of_eq (hcn.block _ t5.lt (by omega))
   replace od := od.chg hcn (by omega)
   clear rd
   have rd := rd2
   clear rd2
   rw [hnb]
   refine ⟨_, rfl, ?_⟩
   simp only [putS]
   refine chk 2 ?_
   refine clF (enters_of Tryz.func87 (by kernel_rfl) rfl) (c := P_NumO1 l ib fb b_rd xc ic fc _ rd hl lb HC.out) (h := ?_)
   rintro e wn ⟨rfl, rd2, hcn⟩
   have hsz := B.size
   have hzn := hcn.size
   replace B := Chg.below B hcn (by omega) B.size
   replace r2 := r2.of_eq (hcn.block _ r2.lt (by omega))
   replace t5 := t5.of_eq (hcn.block _ t5.lt (by omega))
   replace od := od.chg hcn (by omega)
   clear rd
   have rd := rd2
   clear rd2
   rw [hnc]
   refine ⟨_, rfl, ?_⟩
   simp only [putS]
   refine chk 1 ?_
   obtain ⟨wM, hwM⟩ : ∃ z, z = wn := ⟨_, rfl⟩
   subst hwM
   have HOD := Lib.hid od
   have BM := B
   have hws := BM.size
   have kM : b1 ≤ wM.heap.size := by omega
   have B := Below.refl wM.heap.size wM
   have hlr2 := r2.lt
   have hlt5 := t5.lt
   have hlrd := rd.lt
   clear od
   try simp only [gelS]
   (refine wpList_allocBk (t := 43) rfl _ (run_alloc_Sp _ _ rfl) (alK B ?_); clear B; intro b_t6 wn hle hge t6 hbn hsz hln B; (try have hlt := r2.lt); (try replace r2 := r2.below (hbn.mono hle)); (try have hlt := t5.lt); (try replace t5 := t5.below (hbn.mono hle)); (try have hlt := rd.lt); (try replace rd := rd.below (hbn.mono hle)); simp only [putS])
   (refine wpList_storeB (t := 43) rfl _ _ rfl _ rfl _ rfl t6 (by kernel_rfl) rfl (by simp [spE, Value.oneCell']) (stK B (by omega) ?_); clear t6 B; intro wn t6 hcn hsz hzn B; (try replace r2 := r2.of_eq (hcn.block _ r2.lt (by omega))); (try replace t5 := t5.of_eq (hcn.block _ t5.lt (by omega))); (try replace rd := rd.of_eq (hcn.block _ rd.lt (by omega))); simp only [putS])
   refine wpList_nil ?_
   have od := HOD.out.below B
   have B0 := BM.trans (B.mono hws)
   have k7 : b1 ≤ wn.heap.size := Nat.le_trans kM B.size
   clear B
   have B := B0
   clear B0 BM
   obtain ⟨p, hp⟩ : ∃ p : Sp, p = ⟨(na_ : Int) - 1048576, (nb_ : Int) - 1048576, (nc_ : Int)⟩ := ⟨_, rfl⟩
   have t6p : AtB 43 wn b_t6 (spE.enc p) := by rw [hp]; exact t6
   rw [← hp] at HST
   clear t6 hp
   have t6 := t6p
   clear t6p
   go_upto_region 6 with fail
   refine wp_region_lit ?_
   try simp only [gelS]
   refine chk 3 ?_
   (refine wpList_bs1E (E := spE) rfl _ rfl (p) rfl (by omega) (alK B ?_); clear B; intro b_s1 wn hle hge s1 hbn hsz hln B; replace od := od.below (hbn.mono hle); (try have hlt := r2.lt); (try replace r2 := r2.below (hbn.mono hle)); (try have hlt := t5.lt); (try replace t5 := t5.below (hbn.mono hle)); (try have hlt := rd.lt); (try replace rd := rd.below (hbn.mono hle)); simp only [putS])
   (at_builtin; refine wpList_appendE rfl _ _ rfl _ _ rfl rfl od ((RSE.one s1)) (by simp only [List.length_append, List.length_cons, List.length_nil]; omega) (by omega) ?_; intro v_od wn ht hbn; have hsz := B.size; have hbz := hbn.size; replace B := B.trans (hbn.mono (by omega)); clear od; (try replace r2 := r2.of_eq (hbn.block _ (by omega))); (try replace t5 := t5.of_eq (hbn.block _ (by omega))); (try replace rd := rd.of_eq (hbn.block _ (by omega))); have od := ht; clear ht; obtain ⟨a_od, c_od, hv, hco⟩ := od.len; (try simp only [List.length_append, List.length_cons, List.length_nil, Nat.zero_add] at hv hco); subst hv; simp only [putS])
   refine chk 1 ?_
   refine wpList_nil ?_
   go_upto_region 7 with fail
   refine wp_region_lit ?_
   try simp only [gelS]
   refine chk 2 ?_
   (refine wpList_stSp (t := 30) rfl _ _ rfl _ 0 rfl _ _ _ rfl t5 rfl (stK B (by omega) ?_); clear t5 B; intro wn t5 hcn hsz hzn B; (try replace r2 := r2.of_eq (hcn.block _ r2.lt (by omega))); (try replace rd := rd.of_eq (hcn.block _ rd.lt (by omega))); replace od := od.chg hcn (by omega); simp only [putS])
   refine wpList_nil ?_
   go_upto_region 8 with fail
   refine wp_region_lit ?_
   try simp only [gelS]
   refine chk 2 ?_
   refine wpList_nil ?_
   go_wp2
   go_roundw
   case rel => exact ⟨k + 1, ic, fc, P ++ [p], _, _, by omega, by go_num, HST, B, by omega, rd, r2, by rw [List.length_append]; exact t5, by rw [List.length_append]; exact od⟩
   case measure => simp [intOf]; omega
  ·have q1 : decide ((k : Int) < (n : Int)) = false := decide_eq_false (by omega)
   have q2 : decide (k < n) = false := decide_eq_false hkn
   have hke : k = n := by omega
   subst hke
   obtain ⟨a, b, c, d, e, ⟨i1, f1⟩, ⟨i2, f2⟩, ⟨i3, f3⟩, ⟨i4, f4⟩, ⟨i5, f5⟩, TL⟩ := tl_made l (i, fl)
   obtain ⟨m1, m2, m3, m4⟩ := TL.le hi
   simp only at m1 m2 m3 m4
   have HT1 := Lib.hid TL.h1
   have HT2 := Lib.hid TL.h2
   have HT3 := Lib.hid TL.h3
   have HT4 := Lib.hid TL.h4
   have HT5 := Lib.hid TL.h5
   have HTL := Lib.hid (show Tl l (rdK l k).2 a b c d e (i1, f1) (i2, f2) (i3, f3) (i4, f4) (i5, f5) from by rw [HK.out]; exact TL)
   clear TL
   obtain ⟨na_, hna⟩ : ∃ n, beN a = n := ⟨_, rfl⟩
   obtain ⟨nb_, hnb⟩ : ∃ n, beN b = n := ⟨_, rfl⟩
   obtain ⟨nd_, hnd⟩ : ∃ n, beN d = n := ⟨_, rfl⟩
   obtain ⟨ne_, hne⟩ : ∃ n, beN e = n := ⟨_, rfl⟩
   have qd : ((nd_ : Int) == 1) = decide (nd_ = 1) := by
    by_cases h : nd_ = 1
    ·subst h; rfl
    ·rw [decide_eq_false h, beq_eq_false_iff_ne]; omega
   go_upto_region 4 with fail
   refine wp_region_lit ?_
   try simp only [gelS]
   refine chk 1 ?_
   refine wpList_nil ?_
   go_upto_region 9 with fail
   refine wp_region_lit ?_
   try simp only [gelS]
   refine chk 1 ?_
   refine clF (enters_of Tryz.func87 (by kernel_rfl) rfl) (c := P_NumO2 l i fl b_rd a i1 f1 _ rd hl hi HT1.out) (h := ?_)
   rintro e wn ⟨rfl, rd2, hcn⟩
   have hsz := B.size
   have hzn := hcn.size
   replace B := Chg.below B hcn (by omega) B.size
   replace r2 := r2.of_eq (hcn.block _ r2.lt (by omega))
   replace t5 := t5.of_eq (hcn.block _ t5.lt (by omega))
   replace od := od.chg hcn (by omega)
   clear rd
   have rd := rd2
   clear rd2
   rw [hna]
   refine ⟨_, rfl, ?_⟩
   simp only [putS]
   refine chk 1 ?_
   refine clF (enters_of Tryz.func87 (by kernel_rfl) rfl) (c := P_NumO2 l i1 f1 b_rd b i2 f2 _ rd hl m1 HT2.out) (h := ?_)
   rintro e wn ⟨rfl, rd2, hcn⟩
   have hsz := B.size
   have hzn := hcn.size
   replace B := Chg.below B hcn (by omega) B.size
   replace r2 := r2.of_eq (hcn.block _ r2.lt (by omega))
   replace t5 := t5.of_eq (hcn.block _ t5.lt (by omega))
   replace od := od.chg hcn (by omega)
   clear rd
   have rd := rd2
   clear rd2
   rw [hnb]
   refine ⟨_, rfl, ?_⟩
   simp only [putS]
   refine chk 1 ?_
   (refine wpList_stI (t := 30) rfl _ _ rfl _ 1 rfl _ rfl t5 rfl (stK B (by omega) ?_); clear t5 B; intro wn t5 hcn hsz hzn B; replace od := od.chg hcn (by omega); (try replace r2 := r2.of_eq (hcn.block _ r2.lt (by omega))); (try replace rd := rd.of_eq (hcn.block _ rd.lt (by omega))); simp only [putS])
   refine chk 1 ?_
   (refine wpList_stI (t := 30) rfl _ _ rfl _ 2 rfl _ rfl t5 rfl (stK B (by omega) ?_); clear t5 B; intro wn t5 hcn hsz hzn B; replace od := od.chg hcn (by omega); (try replace r2 := r2.of_eq (hcn.block _ r2.lt (by omega))); (try replace rd := rd.of_eq (hcn.block _ rd.lt (by omega))); simp only [putS])
   refine wpList_nil ?_
   replace t5 : AtB 30 _ b_t5 (stC (.slice ap P.length cp) ⟨P, (na_ : Int), (nb_ : Int), Px.zero, false, 0⟩) := t5
   go_upto_region 10 with fail
   refine wp_region_lit ?_
   try simp only [gelS]
   refine chk 1 ?_
   refine clF (enters_of Tryz.func88 (by kernel_rfl) rfl) (c := P_TakeX l i2 f2 b_rd 4 4 c i3 f3 _ rd hl m2 (by omega) rfl HT3.out) (h := ?_)
   rintro e wn ⟨rfl, rd2, hcn⟩
   have hsz := B.size
   have hzn := hcn.size
   replace B := Chg.below B hcn (by omega) B.size
   replace r2 := r2.of_eq (hcn.block _ r2.lt (by omega))
   replace t5 := t5.of_eq (hcn.block _ t5.lt (by omega))
   replace od := od.chg hcn (by omega)
   clear rd
   have rd := rd2
   clear rd2
   refine ⟨_, rfl, ?_⟩
   simp only [putS]
   refine chk 1 ?_
   refine wpList_nil ?_
   go_upto_region 11 with fail
   refine wp_region_lit ?_
   try simp only [gelS]
   refine chk 1 ?_
   refine clF (enters_of Tryz.func87 (by kernel_rfl) rfl) (c := P_NumO1 l i3 f3 b_rd d i4 f4 _ rd hl m3 HT4.out) (h := ?_)
   rintro e wn ⟨rfl, rd2, hcn⟩
   have hsz := B.size
   have hzn := hcn.size
   replace B := Chg.below B hcn (by omega) B.size
   replace r2 := r2.of_eq (hcn.block _ r2.lt (by omega))
   replace t5 := t5.of_eq (hcn.block _ t5.lt (by omega))
   replace od := od.chg hcn (by omega)
   clear rd
   have rd := rd2
   clear rd2
   rw [hnd]
   refine ⟨_, rfl, ?_⟩
   simp only [putS]
   refine chk 2 ?_
   (refine wpList_stBo (t := 30) rfl _ _ rfl _ 7 rfl _ rfl t5 rfl (stK B (by omega) ?_); clear t5 B; intro wn t5 hcn hsz hzn B; replace od := od.chg hcn (by omega); (try replace r2 := r2.of_eq (hcn.block _ r2.lt (by omega))); (try replace rd := rd.of_eq (hcn.block _ rd.lt (by omega))); simp only [putS])
   refine wpList_nil ?_
   replace t5 : AtB 30 _ b_t5 (stC (.slice ap P.length cp) ⟨P, (na_ : Int), (nb_ : Int), Px.zero, decide (nd_ = 1), 0⟩) := t5
   go_upto_region 12 with fail
   refine wp_region_lit ?_
   try simp only [gelS]
   refine chk 1 ?_
   refine clF (enters_of Tryz.func87 (by kernel_rfl) rfl) (c := P_NumO3 l i4 f4 b_rd e i5 f5 _ rd hl m4 HT5.out) (h := ?_)
   rintro e wn ⟨rfl, rd2, hcn⟩
   have hsz := B.size
   have hzn := hcn.size
   replace B := Chg.below B hcn (by omega) B.size
   replace r2 := r2.of_eq (hcn.block _ r2.lt (by omega))
   replace t5 := t5.of_eq (hcn.block _ t5.lt (by omega))
   replace od := od.chg hcn (by omega)
   clear rd
   have rd := rd2
   clear rd2
   rw [hne]
   refine ⟨_, rfl, ?_⟩
   simp only [putS]
   refine chk 1 ?_
   (refine wpList_stI (t := 30) rfl _ _ rfl _ 8 rfl _ rfl t5 rfl (stK B (by omega) ?_); clear t5 B; intro wn t5 hcn hsz hzn B; replace od := od.chg hcn (by omega); (try replace r2 := r2.of_eq (hcn.block _ r2.lt (by omega))); (try replace rd := rd.of_eq (hcn.block _ rd.lt (by omega))); simp only [putS])
   refine wpList_nil ?_
   replace t5 : AtB 30 _ b_t5 (stC (.slice ap P.length cp) ⟨P, (na_ : Int), (nb_ : Int), Px.zero, decide (nd_ = 1), (ne_ : Int)⟩) := t5
   go_upto_region 13 with fail
   refine wp_region_lit ?_
   try simp only [gelS]
   refine chk 1 ?_
   refine clF (enters_of Tryz.func89 (by kernel_rfl) rfl) (c := P_FailedO l i5 f5 b_rd _ rd) (h := ?_)
   rintro e wn ⟨rfl, hbn⟩
   have hsz := B.size
   have hzn := hbn.size
   replace B := B.trans (hbn.mono B.size)
   (try replace r2 := r2.below hbn)
   (try replace t5 := t5.below hbn)
   (try replace od := od.below hbn)
   refine ⟨_, rfl, ?_⟩
   simp only [putS]
   refine wpList_nil ?_
   by_cases hsh : l.length < 13 + 7 * k
   ·have h5 : f5 = true := HTL.out.bad hsh
    subst h5
    have hS := HE.out
    rw [read_short (by rw [HN.out]; exact hsh)] at hS
    injection hS with e1 e2
    subst e1 e2
    clear od
    go_upto_region 14 with fail
    refine wp_region_lit ?_
    try simp only [gelS]
    (refine wpList_val rfl (.agg #[.slice none 0 0, .int .i64 0, .int .i64 0, .int .u8 0, .int .u8 0, .int .u8 0, .int .u8 0, .bool false, .int .i64 0]) (by kernel_rfl) ?_; simp only [putS])
    (refine wpList_storeB (t := 30) rfl _ _ rfl _ rfl _ rfl r2 (by kernel_rfl) rfl (by simp [stC, Value.oneCell']) (stK B (by omega) ?_); clear r2 B; intro wn r2 hcn hsz hzn B; (try replace t5 := t5.of_eq (hcn.block _ t5.lt (by omega))); simp only [putS])
    refine chk 1 ?_
    refine wpList_nil ?_
    first | (refine bodyPost_ret (results_B2 (t := 30) rfl _ _ (b_r2) rfl _ rfl r2 Tryz.isAgg30 (by kernel_rfl)) rfl ?_) | (go_step; refine bodyPost_ret (results_B2 (t := 30) rfl _ _ (b_r2) rfl _ rfl r2 Tryz.isAgg30 (by kernel_rfl)) rfl ?_) | (go_step; go_step; refine bodyPost_ret (results_B2 (t := 30) rfl _ _ (b_r2) rfl _ rfl r2 Tryz.isAgg30 (by kernel_rfl)) rfl ?_) | (go_step; go_step; go_step; refine bodyPost_ret (results_B2 (t := 30) rfl _ _ (b_r2) rfl _ rfl r2 Tryz.isAgg30 (by kernel_rfl)) rfl ?_) | (go_step; go_step; go_step; go_step; refine bodyPost_ret (results_B2 (t := 30) rfl _ _ (b_r2) rfl _ rfl r2 Tryz.isAgg30 (by kernel_rfl)) rfl ?_) | (go_step; go_step; go_step; go_step; go_step; refine bodyPost_ret (results_B2 (t := 30) rfl _ _ (b_r2) rfl _ rfl r2 Tryz.isAgg30 (by kernel_rfl)) rfl ?_) | (go_step; go_step; go_step; go_step; go_step; go_step; refine bodyPost_ret (results_B2 (t := 30) rfl _ _ (b_r2) rfl _ rfl r2 Tryz.isAgg30 (by kernel_rfl)) rfl ?_) | (go_step; go_step; go_step; go_step; go_step; go_step; go_step; refine bodyPost_ret (results_B2 (t := 30) rfl _ _ (b_r2) rfl _ rfl r2 Tryz.isAgg30 (by kernel_rfl)) rfl ?_)
    exact ⟨.slice none 0 0, rfl, (OwnE.nil (E := spE) 0 wn).rs, B⟩
   ·obtain ⟨h5, ea, eb, ec, ed, ee⟩ := HTL.out.good (by omega)
    simp only at h5
    subst h5
    have hcl : c.length = 4 := by rw [ec]; exact subL_len (by omega)
    obtain ⟨g0, hg0⟩ : ∃ n, (c.getD 0 0).toNat = n := ⟨_, rfl⟩
    obtain ⟨g1, hg1⟩ : ∃ n, (c.getD 1 0).toNat = n := ⟨_, rfl⟩
    obtain ⟨g2, hg2⟩ : ∃ n, (c.getD 2 0).toNat = n := ⟨_, rfl⟩
    obtain ⟨g3, hg3⟩ : ∃ n, (c.getD 3 0).toNat = n := ⟨_, rfl⟩
    have hcc : ∀ j, j < 4 → c.getD j 0 = l.getD (5 + 7 * k + j) 0 := fun j hj => by
     rw [List.getD_eq_getElem?_getD, List.getD_eq_getElem?_getD, ec, subL_at hj]
    have hPar : parS l = ⟨P, (na_ : Int), (nb_ : Int), ⟨(g0 : Int), (g1 : Int), (g2 : Int), (g3 : Int)⟩, decide (nd_ = 1), (ne_ : Int)⟩ := by
     have hk := HK.out
     rw [rdK_ok l k (by omega)] at hk
     injection hk with hP _
     unfold parS
     rw [HN.out]
     unfold pkS parC
     rw [hP, ← ea, ← eb, ← ed, ← ee, hna, hnb, hnd, hne, ← hcc 1 (by omega), ← hcc 2 (by omega), ← hcc 3 (by omega), hg1, hg2, hg3]
     have h0 := hcc 0 (by omega)
     rw [Nat.add_zero] at h0
     rw [← h0, hg0]
    have okC : (⟨(g0 : Int), (g1 : Int), (g2 : Int), (g3 : Int)⟩ : Px).ok := by
     have := parC_ok l (5 + 7 * parN l)
     have e9 : (parS l).col = parC l (5 + 7 * parN l) := rfl
     rw [← e9, hPar] at this
     exact this
    have HPAR := Lib.hid hPar
    have OKC := Lib.hid okC
    have HG0 := Lib.hid hg0
    have HG1 := Lib.hid hg1
    have HG2 := Lib.hid hg2
    have HG3 := Lib.hid hg3
    clear hPar okC hg0 hg1 hg2 hg3 ea eb ec ed ee hcc
    have hPs : P.length ≤ 255 := by omega
    go_upto_region 15 with fail
    try simp only [gelS]
    try have lx_r2 := r2.lt
    try have lx_t5 := t5.lt
    try have lx_od := od.lt
    refine wp_region_RL 10 [] (by kernel_rfl) (by kernel_rfl) (by kernel_rfl) ?_
    rotate_left 0
    simp only [takS, Nat.reduceAdd]
    refine crq 10 ?_
    repeat (first | go_big_quiet_skip | (go_big_quiet_want; first | ((first | refine quiet_indexY rfl c rfl _ rfl 0 g0 (by omega) (by first | rfl | omega) HG0.out ?_ | refine quiet_indexY rfl c rfl _ rfl 1 g1 (by omega) (by first | rfl | omega) HG1.out ?_ | refine quiet_indexY rfl c rfl _ rfl 2 g2 (by omega) (by first | rfl | omega) HG2.out ?_ | refine quiet_indexY rfl c rfl _ rfl 3 g3 (by omega) (by first | rfl | omega) HG3.out ?_ | refine qB ?_ | refine qC ?_); simp only [putS]; go_big_quiet_on) | (go_big_quiet_op; go_big_quiet_on)))
    refine wpQuiet_nil ?_
    refine wpRL_nil ?_
    intro wn hbn hE
    have hsz := B.size
    have hzn := hbn.size
    replace B := B.trans (hbn.mono B.size)
    (try replace r2 := r2.below hbn)
    (try replace t5 := t5.below hbn)
    (try replace od := od.below hbn)
    clear hE
    try simp only [List.drop_succ_cons, List.drop_zero]
    (refine wpList_stCol rfl _ _ rfl _ rfl ⟨(g0 : Int), (g1 : Int), (g2 : Int), (g3 : Int)⟩ rfl t5 (stK B (by omega) ?_); clear t5 B; intro wn t5 hcn hsz hzn B; replace od := od.chg hcn (by omega); (try replace r2 := r2.of_eq (hcn.block _ r2.lt (by omega))); simp only [putS])
    refine wpList_nil ?_
    refine NoPan.normal ?_
    obtain ⟨s1, hs1⟩ : ∃ s : Stk, s = ⟨P, (na_ : Int), (nb_ : Int), ⟨(g0 : Int), (g1 : Int), (g2 : Int), (g3 : Int)⟩, decide (nd_ = 1), (ne_ : Int)⟩ := ⟨_, rfl⟩
    replace t5 : AtB 30 wn b_t5 (stC (.slice ap P.length cp) s1) := by rw [hs1]; exact t5
    have hsp : s1.pts = P := by rw [hs1]
    have hsc : s1.col.ok := by rw [hs1]; exact OKC.out
    rw [← hs1] at HPAR
    have rsP : RSE spE (.slice ap P.length cp) s1.pts wn := by rw [hsp]; exact od.rs
    have hsn : s1.pts.length ≤ 17592186044416 := by rw [hsp]; omega
    obtain ⟨Lb, hLb⟩ : ∃ b, bytesL s1 = b := ⟨_, rfl⟩
    have HLB := Lib.hid hLb
    have HSC := Lib.hid hsc
    clear hs1 hLb hsc
    have hpl : ¬ l.length < 13 + 7 * parN l := by rw [HN.out]; exact hsh
    by_cases heq : Lb = l
    ·have hz : (!decide (Lb = l)) = false := by rw [decide_eq_true heq]; rfl
     have hS := HE.out
     rw [read_ok hpl (by rw [HPAR.out, HLB.out]; exact heq), HPAR.out] at hS
     injection hS with e1 e2
     subst e1 e2
     go_upto_region 16 with fail
     refine wp_region_lit ?_
     try simp only [gelS]
     refine chq 1 ?_
     repeat (first | go_big_quiet_skip | (go_big_quiet_want; first | ((first | refine quiet_neqY rfl Lb l rfl rfl false hz ?_ | refine qB ?_ | refine qC ?_); simp only [putS]; go_big_quiet_on) | (go_big_quiet_op; go_big_quiet_on)))
     refine wpQuiet_nil ?_
     refine clF (enters_of Tryz.func33 (by kernel_rfl) rfl) (c := P_BytesS _ s1 Lb _ rsP hsn HSC.out HLB.out) (h := ?_)
     rintro e wn ⟨rfl, hbn⟩
     have hsz := B.size
     have hzn := hbn.size
     replace B := B.trans (hbn.mono B.size)
     (try replace r2 := r2.below hbn)
     (try replace t5 := t5.below hbn)
     (try replace rsP := rsP.below hbn)
     (try replace od := od.below hbn)
     refine ⟨_, rfl, ?_⟩
     simp only [putS]
     refine chq 2 ?_
     repeat (first | go_big_quiet_skip | (go_big_quiet_want; first | ((first | refine quiet_neqY rfl Lb l rfl rfl false hz ?_ | refine qB ?_ | refine qC ?_); simp only [putS]; go_big_quiet_on) | (go_big_quiet_op; go_big_quiet_on)))
     refine wpQuiet_nil ?_
     refine wpList_nil ?_
     have HODP := Lib.hid od
     have hlr2 := r2.lt
     go_upto_region 18 with fail
     refine wp_region_lit ?_
     try simp only [gelS]
     refine chk 1 ?_
     (refine wpList_storeB (t := 30) rfl _ _ rfl _ rfl _ rfl r2 (by kernel_rfl) rfl (by simp [stC, Value.oneCell']) (stK B (by omega) ?_); clear r2 B; intro wn r2 hcn hsz hzn B; replace rsP : RSE spE (.slice ap P.length cp) s1.pts wn := (by rw [hsp]; exact (OwnE.chg HODP.out hcn (by omega)).rs); (try replace t5 := t5.of_eq (hcn.block _ t5.lt (by omega))); simp only [putS])
     refine chk 1 ?_
     refine wpList_nil ?_
     first | (refine bodyPost_ret (results_B2 (t := 30) rfl _ _ (b_r2) rfl _ rfl r2 Tryz.isAgg30 (by kernel_rfl)) rfl ?_) | (go_step; refine bodyPost_ret (results_B2 (t := 30) rfl _ _ (b_r2) rfl _ rfl r2 Tryz.isAgg30 (by kernel_rfl)) rfl ?_) | (go_step; go_step; refine bodyPost_ret (results_B2 (t := 30) rfl _ _ (b_r2) rfl _ rfl r2 Tryz.isAgg30 (by kernel_rfl)) rfl ?_) | (go_step; go_step; go_step; refine bodyPost_ret (results_B2 (t := 30) rfl _ _ (b_r2) rfl _ rfl r2 Tryz.isAgg30 (by kernel_rfl)) rfl ?_) | (go_step; go_step; go_step; go_step; refine bodyPost_ret (results_B2 (t := 30) rfl _ _ (b_r2) rfl _ rfl r2 Tryz.isAgg30 (by kernel_rfl)) rfl ?_) | (go_step; go_step; go_step; go_step; go_step; refine bodyPost_ret (results_B2 (t := 30) rfl _ _ (b_r2) rfl _ rfl r2 Tryz.isAgg30 (by kernel_rfl)) rfl ?_) | (go_step; go_step; go_step; go_step; go_step; go_step; refine bodyPost_ret (results_B2 (t := 30) rfl _ _ (b_r2) rfl _ rfl r2 Tryz.isAgg30 (by kernel_rfl)) rfl ?_) | (go_step; go_step; go_step; go_step; go_step; go_step; go_step; refine bodyPost_ret (results_B2 (t := 30) rfl _ _ (b_r2) rfl _ rfl r2 Tryz.isAgg30 (by kernel_rfl)) rfl ?_)
     exact ⟨_, rfl, rsP, B⟩
    ·have hz : (!decide (Lb = l)) = true := by rw [decide_eq_false heq]; rfl
     have hS := HE.out
     rw [read_form hpl (by rw [HPAR.out, HLB.out]; exact heq)] at hS
     injection hS with e1 e2
     subst e1 e2
     go_upto_region 16 with fail
     refine wp_region_lit ?_
     try simp only [gelS]
     refine chq 1 ?_
     repeat (first | go_big_quiet_skip | (go_big_quiet_want; first | ((first | refine quiet_neqY rfl Lb l rfl rfl true hz ?_ | refine qB ?_ | refine qC ?_); simp only [putS]; go_big_quiet_on) | (go_big_quiet_op; go_big_quiet_on)))
     refine wpQuiet_nil ?_
     refine clF (enters_of Tryz.func33 (by kernel_rfl) rfl) (c := P_BytesS _ s1 Lb _ rsP hsn HSC.out HLB.out) (h := ?_)
     rintro e wn ⟨rfl, hbn⟩
     have hsz := B.size
     have hzn := hbn.size
     replace B := B.trans (hbn.mono B.size)
     (try replace r2 := r2.below hbn)
     refine ⟨_, rfl, ?_⟩
     simp only [putS]
     refine chq 2 ?_
     repeat (first | go_big_quiet_skip | (go_big_quiet_want; first | ((first | refine quiet_neqY rfl Lb l rfl rfl true hz ?_ | refine qB ?_ | refine qC ?_); simp only [putS]; go_big_quiet_on) | (go_big_quiet_op; go_big_quiet_on)))
     refine wpQuiet_nil ?_
     refine wpList_nil ?_
     go_upto_region 17 with fail
     refine wp_region_lit ?_
     try simp only [gelS]
     (refine wpList_val rfl (.agg #[.slice none 0 0, .int .i64 0, .int .i64 0, .int .u8 0, .int .u8 0, .int .u8 0, .int .u8 0, .bool false, .int .i64 0]) (by kernel_rfl) ?_; simp only [putS])
     (refine wpList_storeB (t := 30) rfl _ _ rfl _ rfl _ rfl r2 (by kernel_rfl) rfl (by simp [stC, Value.oneCell']) (stK B (by omega) ?_); clear r2 B; intro wn r2 hcn hsz hzn B; simp only [putS])
     refine chk 1 ?_
     refine wpList_nil ?_
     first | (refine bodyPost_ret (results_B2 (t := 30) rfl _ _ (b_r2) rfl _ rfl r2 Tryz.isAgg30 (by kernel_rfl)) rfl ?_) | (go_step; refine bodyPost_ret (results_B2 (t := 30) rfl _ _ (b_r2) rfl _ rfl r2 Tryz.isAgg30 (by kernel_rfl)) rfl ?_) | (go_step; go_step; refine bodyPost_ret (results_B2 (t := 30) rfl _ _ (b_r2) rfl _ rfl r2 Tryz.isAgg30 (by kernel_rfl)) rfl ?_) | (go_step; go_step; go_step; refine bodyPost_ret (results_B2 (t := 30) rfl _ _ (b_r2) rfl _ rfl r2 Tryz.isAgg30 (by kernel_rfl)) rfl ?_) | (go_step; go_step; go_step; go_step; refine bodyPost_ret (results_B2 (t := 30) rfl _ _ (b_r2) rfl _ rfl r2 Tryz.isAgg30 (by kernel_rfl)) rfl ?_) | (go_step; go_step; go_step; go_step; go_step; refine bodyPost_ret (results_B2 (t := 30) rfl _ _ (b_r2) rfl _ rfl r2 Tryz.isAgg30 (by kernel_rfl)) rfl ?_) | (go_step; go_step; go_step; go_step; go_step; go_step; refine bodyPost_ret (results_B2 (t := 30) rfl _ _ (b_r2) rfl _ rfl r2 Tryz.isAgg30 (by kernel_rfl)) rfl ?_) | (go_step; go_step; go_step; go_step; go_step; go_step; go_step; refine bodyPost_ret (results_B2 (t := 30) rfl _ _ (b_r2) rfl _ rfl r2 Tryz.isAgg30 (by kernel_rfl)) rfl ?_)
     exact ⟨.slice none 0 0, rfl, (OwnE.nil (E := spE) 0 wn).rs, B⟩
end Go.Proofs.YtepelndbbhdofaaGreatDoor
/- Contract of the reference's Split. -/
namespace Go.Proofs.YtepelndbbhdofaaGreatDoor
open Go.RowKit Go.Shelf Pl
set_option linter.unusedVariables false
set_option linter.unusedSimpArgs false
set_option maxRecDepth 20000
def prC (v : Value) (s : Stk) (u : Value) (t : Stk) (n : Int) : Array Value := #[v, .int .i64 s.rad, .int .i64 s.spa, .int .u8 s.col.r, .int .u8 s.col.g, .int .u8 s.col.b, .int .u8 s.col.a, .bool s.era, .int .i64 s.pha, u, .int .i64 t.rad, .int .i64 t.spa, .int .u8 t.col.r, .int .u8 t.col.g, .int .u8 t.col.b, .int .u8 t.col.a, .bool t.era, .int .i64 t.pha, .int .i64 n]
def Stk.none : Stk := ⟨[], 0, 0, Px.zero, false, 0⟩
/- Contracts of Shift of package stroke and of its reference. -/
/-! ### Points written in place in a row of the call's own -/
theorem rowE_setF {f : Nat} (hf : f < 3) (v : Value) (a' : Sp) : ∀ (l : List Sp) (i : Nat), i < l.length → spE.enc a' = (spE.enc (pAt l i)).setIfInBounds f v → (rowE spE l).set (i * 3 + f) v = rowE spE (l.set i a')
 | [], i, h, _ => absurd h (Nat.not_lt_zero _)
 | a :: r, 0, _, he => by
  have he : spE.enc a' = (spE.enc a).setIfInBounds f v := he
  show ((spE.enc a).toList ++ rowE spE r).set (0 * 3 + f) v = (spE.enc a').toList ++ rowE spE r
  rw [List.set_append_left _ _ (by rw [Array.length_toList, spE.size]; omega), he, Array.toList_setIfInBounds, Nat.zero_mul, Nat.zero_add]
 | a :: r, i + 1, h, he => by
  have he : spE.enc a' = (spE.enc (pAt r i)).setIfInBounds f v := he
  show ((spE.enc a).toList ++ rowE spE r).set ((i + 1) * 3 + f) v = (spE.enc a).toList ++ rowE spE (r.set i a')
  have hl : (spE.enc a).toList.length = 3 := by rw [Array.length_toList, spE.size]
  rw [List.set_append_right _ _ (by rw [hl]; omega), hl, ← rowE_setF hf v a' r i (by simpa using h) he]
  congr 2
  omega
theorem OwnE.setF {B g n c : Nat} {l : List Sp} {w : World} (h : OwnE spE B (.slice (some ⟨g, 0, none⟩) n c) l w) (hn : n = l.length) {i f : Nat} (hi : i < l.length) (hf : f < 3) (z : Int) (a' : Sp) (he : spE.enc a' = (spE.enc (pAt l i)).setIfInBounds f (.int .i64 z)) : OwnE spE B (.slice (some ⟨g, 0, none⟩) n c) (l.set i a') (w.setCell ⟨g, i * 3 + f, none⟩ (.int .i64 z)) := by
 obtain ⟨h1, h2⟩ := h
 rcases h2 with ⟨e, _⟩ | ⟨g', cap, cur, e, hg, hx, k1, k2, k3, k4⟩
 ·cases e
 ·injection e with e1 e2 e3
  injection e1 with e1
  injection e1 with e1 _ _
  subst e1 e3
  have hr := rowE_setF hf (.int .i64 z) a' l i hi he
  refine ⟨by rw [← hr, List.length_set, h1]; simp, .inr ⟨g, c, cur.setIfInBounds (i * 3 + f) (.int .i64 z), by rw [List.length_set, hn], hg, heap_setCell_same w g (i * 3 + f) cur _ _ hx, by rw [List.length_set, ← hn, e2]; exact k1, k2, by rw [Array.size_setIfInBounds]; exact k3, ?_⟩⟩
  rw [← hr, ← k4, Array.toList_setIfInBounds, List.length_set, List.take_set]
theorem wpList_stOwn {ops : Array Oper} {rest : List Oper} {o : Oper} {a : Act} {w : World} {Q : Exit → Act → World → Prop} (hg : o.guard = none) (x y : Operand) (ho : o.op = .store 3 x y) (g j : Nat) (hx : a.eval x = .pointer (some ⟨g, j, none⟩)) (z : Int) (hy : a.eval y = .int .i64 z) {B n c : Nat} {l : List Sp} (h : OwnE spE B (.slice (some ⟨g, 0, none⟩) n c) l w) (hn : n = l.length) (i f : Nat) (hi : i < l.length) (hf : f < 3) (hj : j = i * 3 + f) (a' : Sp) (he : spE.enc a' = (spE.enc (pAt l i)).setIfInBounds f (.int .i64 z))
  (hk : ∀ w', OwnE spE B (.slice (some ⟨g, 0, none⟩) n c) (l.set i a') w' → Chg g w w' → w'.heap.size = w.heap.size → wpList Tryz.prog ops Q rest (a.put o.dst undef) w') : wpList Tryz.prog ops Q (o :: rest) a w := by
 subst hj
 obtain ⟨cs, hcs⟩ := h.block (b := g) rfl
 have f0 := (cells_of_block hcs).2 (i * 3 + f)
 have c0 : ∃ u, w.cell? ⟨g, i * 3 + f, none⟩ = some u := by
  obtain ⟨g2, o2, e2, rc⟩ := h.rs.at (by omega)
  obtain ⟨rfl, rfl⟩ : g = g2 ∧ 0 = o2 := by simpa using e2
  have h1 := rc.2 i (pAt l i) (pAt_some hi) f hf
  rw [Nat.zero_add] at h1
  have hs : f < (spE.enc (pAt l i)).size := by rw [spE.size]; exact hf
  exact ⟨_, h1.trans (Array.getElem?_eq_getElem hs)⟩
 obtain ⟨u, c0⟩ := c0
 refine wpList_storeAny hg x y ho (w.setCell ⟨g, i * 3 + f, none⟩ (.int .i64 z)) ?_ (hk _ (h.setF hn hi hf z a' he) ((Chg.refl g w).setCell _) (by simp only [World.size_setCell]))
 rw [hx, hy]
 simp [go_sem, c0, f0]
def shK (X Y : Int) (l : List Sp) (k : Nat) : List Sp := (l.take k).map (shP X Y) ++ l.drop k
theorem shK_len (X Y : Int) (l : List Sp) (k : Nat) : (shK X Y l k).length = l.length := by
 unfold shK
 rw [List.length_append, List.length_map, List.length_take, List.length_drop]
 omega
theorem shK_at (X Y : Int) {l : List Sp} {k : Nat} (h : k < l.length) : (shK X Y l k)[k]? = some (pAt l k) := by
 unfold shK
 rw [List.getElem?_append_right (by simp; omega), List.length_map, List.length_take, Nat.min_eq_left (by omega), Nat.sub_self, List.getElem?_drop, Nat.add_zero]
 exact pAt_some h
theorem shK_step (X Y : Int) {l : List Sp} {k : Nat} (h : k < l.length) : (shK X Y l k).set k (shP X Y (pAt l k)) = shK X Y l (k + 1) := by
 have hd : l.drop k = pAt l k :: l.drop (k + 1) := by
  rw [List.drop_eq_getElem_cons h]
  have e := pAt_some h
  rw [List.getElem?_eq_getElem h] at e
  rw [Option.some.inj e]
 unfold shK
 rw [hd, List.set_append_right _ _ (by simp; omega), List.length_map, List.length_take, Nat.min_eq_left (by omega), Nat.sub_self, List.set_cons_zero, List.take_add_one, pAt_some h, List.map_append, List.append_assoc]
 rfl
theorem pAt_eq {l : List Sp} {k : Nat} {a : Sp} (h : l[k]? = some a) : pAt l k = a := by
 unfold pAt
 rw [List.getD_eq_getElem?_getD, h]
 rfl
set_option maxHeartbeats 4000000 in
theorem P_Shift14 (v : Value) (s : Stk) (X Y : Int) (w : World) (rs : RSE spE v s.pts w) (hn : s.pts.length ≤ 100000) (hX : -1000000 ≤ X ∧ X ≤ 1000000) (hY : -1000000 ≤ Y ∧ Y ≤ 1000000) (hok : ∀ a ∈ s.pts, (-1000000000 ≤ a.x ∧ a.x ≤ 1000000000) ∧ (-1000000000 ≤ a.y ∧ a.y ≤ 1000000000)) : Calls Tryz.prog 39 #[.agg (stC v s), .int .i64 X, .int .i64 Y] w fun e w' => ∃ v', e = .returned (.agg (stC v' (shS X Y s))) ∧ OwnE spE w.heap.size v' (shS X Y s).pts w' ∧ Below w.heap.size w w' := by
 have B := Below.refl w.heap.size w
 obtain ⟨a, c, rfl, hc⟩ := rs.len
 have HOK := Lib.hid hok
 clear hok
 go_enter Tryz.func39, Tryz.ntmps39
 go_upto_region 0 with fail
 refine wp_region_lit ?_
 try simp only [gelS]
 (refine wpList_boxB (t := 30) rfl _ rfl _ rfl (alK B ?_); clear B; intro b_r3 wn hle hge r3 hbn hsz hln B; (try have hlt := rs.lt); (try replace rs := rs.below (hbn.mono hle)); simp only [putS])
 (refine wpList_allocBk (t := 30) rfl _ (run_alloc_St _ _ rfl) (alK B ?_); clear B; intro b_r6 wn hle hge r6 hbn hsz hln B; (try have hlt := r3.lt); (try replace r3 := r3.below (hbn.mono hle)); (try have hlt := rs.lt); (try replace rs := rs.below (hbn.mono hle)); simp only [putS])
 refine wpList_nil ?_
 have k1 : w.heap.size ≤ b_r3 := by omega
 have k2 : b_r3 < b_r6 := by have := r3.lt; omega
 have k3 := r6.lt
 obtain ⟨b0, hb0⟩ : ∃ b, b = wn.heap.size := ⟨_, rfl⟩
 have hb6 : b_r6 < b0 := by omega
 have HB0 := Lib.hid hb0
 clear hb0
 go_upto_region 1 with fail
 refine wp_region_lit ?_
 try simp only [gelS]
 refine chk 2 ?_
 refine clF (enters_of Tryz.func69 (by kernel_rfl) rfl) (c := P_CloneS _ s.pts _ rs hn) (h := ?_)
 rintro e wn ⟨a4, c4, rfl, od, hbn⟩
 have hsz := B.size
 have hzn := hbn.size
 replace B := B.trans (hbn.mono B.size)
 (try replace r3 := r3.below hbn)
 (try replace r6 := r6.below hbn)
 rw [← HB0.out] at od
 refine ⟨_, rfl, ?_⟩
 simp only [putS]
 refine chk 1 ?_
 (refine wpList_stSp (t := 30) rfl _ _ rfl _ 0 rfl _ _ _ rfl r3 rfl (stK B (by omega) ?_); clear r3 B; intro wn r3 hcn hsz hzn B; replace od := od.chg hcn (by omega); (try replace r6 := r6.of_eq (hcn.block _ r6.lt (by omega))); simp only [putS])
 refine wpList_nil ?_
 replace r3 : AtB 30 _ b_r3 (stC (.slice a4 s.pts.length c4) s) := r3
 go_upto_region 2 with fail
 refine wp_region_lit ?_
 try simp only [gelS]
 refine chk 2 ?_
 refine wpList_lenS (by first | rfl | simp [Region.wanted, yielded]) rfl Tryz.underlying26 rfl ?_
 simp only [putS]
 refine chk 1 ?_
 refine wpList_nil ?_
 clear rs
 go_wp2
 go_loopw [7, 15] (fun _ iv wr => ∃ (k : Nat) (P : List Sp), k ≤ s.pts.length ∧ iv = .int .i64 (k : Int) ∧ Hid (shK X Y s.pts k = P) ∧ Below w.heap.size w wr ∧ AtB 30 wr b_r3 (stC (.slice a4 s.pts.length c4) s) ∧ AtB 30 wr b_r6 #[.slice none 0 0, .int .i64 0, .int .i64 0, .int .u8 0, .int .u8 0, .int .u8 0, .int .u8 0, .bool false, .int .i64 0] ∧ OwnE spE b0 (.slice a4 s.pts.length c4) P wr) (fun _ iv _ => (s.pts.length - intOf iv).toNat)
 case atStart => exact ⟨0, s.pts, by omega, rfl, Lib.hid rfl, B, r3, r6, od⟩
 case round =>
  clear B r3 r6 od
  obtain ⟨k, P, hk, rfl, HP, B, r3, r6, od⟩ := hrel
  have hPn : s.pts.length = P.length := by rw [← HP.out, shK_len]
  have r6l := r6.lt
  by_cases hkl : k < s.pts.length
  ·have q1 : decide ((k : Int) < (s.pts.length : Int)) = true := decide_eq_true (by omega)
   have q2 : decide (k < s.pts.length) = true := decide_eq_true hkl
   have hkp : k < P.length := by omega
   obtain ⟨g, o, e1, pc⟩ := od.rs.at (by omega)
   subst e1
   have hbk := od.block (b := g) rfl
   have hgb : b0 ≤ g := (World.ownsRow.lt od g rfl).1
   obtain rfl : o = 0 := by
    obtain ⟨_, h2⟩ := od
    rcases h2 with ⟨e, _⟩ | ⟨g', cap, cur, e, _⟩
    ·cases e
    ·injection e with e1 _ _
     injection e1 with e1
     injection e1
   have hp : P[k]? = some (pAt s.pts k) := by rw [← HP.out]; exact shK_at X Y hkl
   have hb := HOK.out _ (List.mem_of_getElem? (pAt_some hkl))
   have HN0 := Lib.hid (shK_step X Y hkl)
   rw [HP.out] at HN0
   obtain ⟨x1, hx1⟩ : ∃ x, pAt s.pts k = x := ⟨_, rfl⟩
   rw [hx1] at hp hb HN0
   have HPX := Lib.hid (pAt_eq hp)
   obtain ⟨P2, hP2⟩ : ∃ l, P.set k ⟨x1.x + 16 * X, x1.y, x1.p⟩ = l := ⟨_, rfl⟩
   have hPn2 : s.pts.length = P2.length := by rw [← hP2, List.length_set]; exact hPn
   have hkp2 : k < P2.length := by omega
   have hp2 : P2[k]? = some ⟨x1.x + 16 * X, x1.y, x1.p⟩ := by rw [← hP2, List.getElem?_set_self hkp]
   have HPX2 := Lib.hid (pAt_eq hp2)
   have HP2 := Lib.hid hP2
   have HN := Lib.hid (show P2.set k ⟨x1.x + 16 * X, x1.y + 16 * Y, x1.p⟩ = shK X Y s.pts (k + 1) from by rw [← HN0.out, ← hP2, List.set_set]; rfl)
   clear hx1 hP2
   obtain ⟨⟨hb1, hb2⟩, hb3, hb4⟩ := hb
   have hpcl := pc.lt
   go_upto_region 3 with fail
   refine wp_region_lit ?_
   try simp only [gelS]
   refine chk 1 ?_
   refine wpList_nil ?_
   go_upto_region 4 with fail
   refine wp_region_lit ?_
   try simp only [gelS]
   refine chk 2 ?_
   refine wpList_nil ?_
   go_upto_region 5 with fail
   refine wp_region_lit ?_
   try simp only [gelS]
   refine chq 11 ?_
   repeat (first | go_big_quiet_skip | (go_big_quiet_want; first | ((first | refine quiet_loadAny (t := 3) rfl _ _ _ rfl (fun w hw => run_load_int (spE_r0 (ov_rce pc w hw) hp)) (by first | rfl | omega) ?_ | refine qB ?_ | refine qC ?_); simp only [putS]; go_big_quiet_on) | (go_big_quiet_op; go_big_quiet_on)))
   refine wpQuiet_nil ?_
   (refine wpList_stOwn rfl _ _ rfl _ _ rfl _ rfl od hPn k 0 hkp (by omega) (by omega) ⟨x1.x + 16 * X, x1.y, x1.p⟩ (by rw [HPX.out]; rfl) ?_; clear od; intro wn od hcn hzn; have hsz := B.size; replace hzn := Nat.le_of_eq hzn.symm; replace B := Chg.below B hcn (by omega) B.size; (try replace r3 := r3.of_eq (hcn.block _ r3.lt (by omega))); (try replace r6 := r6.of_eq (hcn.block _ r6.lt (by omega))); simp only [putS])
   refine wpList_nil ?_
   rw [HP2.out] at od
   clear pc
   obtain ⟨g2, o2, e2, pc⟩ := od.rs.at (by omega)
   obtain ⟨rfl, rfl⟩ : g = g2 ∧ 0 = o2 := by simpa using e2
   go_upto_region 6 with fail
   refine wp_region_lit ?_
   try simp only [gelS]
   refine chq 11 ?_
   repeat (first | go_big_quiet_skip | (go_big_quiet_want; first | ((first | refine quiet_loadAny (t := 3) rfl _ _ _ rfl (fun w hw => run_load_int (spE_r1 (ov_rce pc w hw) hp2)) (by first | rfl | omega) ?_ | refine qB ?_ | refine qC ?_); simp only [putS]; go_big_quiet_on) | (go_big_quiet_op; go_big_quiet_on)))
   refine wpQuiet_nil ?_
   (refine wpList_stOwn rfl _ _ rfl _ _ rfl _ rfl od hPn2 k 1 hkp2 (by omega) (by omega) ⟨x1.x + 16 * X, x1.y + 16 * Y, x1.p⟩ (by rw [HPX2.out]; rfl) ?_; clear od; intro wn od hcn hzn; have hsz := B.size; replace hzn := Nat.le_of_eq hzn.symm; replace B := Chg.below B hcn (by omega) B.size; (try replace r3 := r3.of_eq (hcn.block _ r3.lt (by omega))); (try replace r6 := r6.of_eq (hcn.block _ r6.lt (by omega))); simp only [putS])
   refine wpList_nil ?_
   rw [HN.out] at od
   clear pc
   go_upto_region 7 with fail
   refine wp_region_lit ?_
   try simp only [gelS]
   refine chk 2 ?_
   refine wpList_nil ?_
   go_wp2
   go_roundw
   case rel => exact ⟨k + 1, _, by omega, by go_num, Lib.hid rfl, B, r3, r6, od⟩
   case measure => simp [intOf]; omega
  ·have q1 : decide ((k : Int) < (s.pts.length : Int)) = false := decide_eq_false (by omega)
   have q2 : decide (k < s.pts.length) = false := decide_eq_false hkl
   have HF := Lib.hid (show (shS X Y s).pts = P from by
    rw [← HP.out, show k = s.pts.length by omega]
    show s.pts.map (shP X Y) = (s.pts.take s.pts.length).map (shP X Y) ++ s.pts.drop s.pts.length
    rw [List.take_length, List.drop_length, List.append_nil])
   go_upto_region 3 with fail
   refine wp_region_lit ?_
   try simp only [gelS]
   refine chk 1 ?_
   refine wpList_nil ?_
   go_upto_region 8 with fail
   refine wp_region_lit ?_
   try simp only [gelS]
   refine chk 1 ?_
   (refine wpList_storeB (t := 30) rfl _ _ rfl _ rfl _ rfl r6 (by kernel_rfl) rfl (by simp [stC, Value.oneCell']) (stK B (by omega) ?_); clear r6 B; intro wn r6 hcn hsz hzn B; replace od := od.chg hcn (by omega); simp only [putS])
   refine wpList_nil ?_
   first | (refine bodyPost_ret (results_B (t := 30) rfl _ _ (b_r6) rfl r6 Tryz.isAgg30 (by kernel_rfl)) rfl ?_) | (go_step; refine bodyPost_ret (results_B (t := 30) rfl _ _ (b_r6) rfl r6 Tryz.isAgg30 (by kernel_rfl)) rfl ?_) | (go_step; go_step; refine bodyPost_ret (results_B (t := 30) rfl _ _ (b_r6) rfl r6 Tryz.isAgg30 (by kernel_rfl)) rfl ?_) | (go_step; go_step; go_step; refine bodyPost_ret (results_B (t := 30) rfl _ _ (b_r6) rfl r6 Tryz.isAgg30 (by kernel_rfl)) rfl ?_) | (go_step; go_step; go_step; go_step; refine bodyPost_ret (results_B (t := 30) rfl _ _ (b_r6) rfl r6 Tryz.isAgg30 (by kernel_rfl)) rfl ?_) | (go_step; go_step; go_step; go_step; go_step; refine bodyPost_ret (results_B (t := 30) rfl _ _ (b_r6) rfl r6 Tryz.isAgg30 (by kernel_rfl)) rfl ?_)
   have e4 : stC (.slice a4 s.pts.length c4) s = stC (.slice a4 s.pts.length c4) (shS X Y s) := rfl
   rw [HF.out, e4]
   exact ⟨_, rfl, od.mono (by have := HB0.out; omega), B⟩
set_option maxHeartbeats 4000000 in
theorem R_Shift14 (v : Value) (s : Stk) (X Y : Int) (w : World) (rs : RSE spE v s.pts w) (hn : s.pts.length ≤ 100000) (hX : -1000000 ≤ X ∧ X ≤ 1000000) (hY : -1000000 ≤ Y ∧ Y ≤ 1000000) (hok : ∀ a ∈ s.pts, (-1000000000 ≤ a.x ∧ a.x ≤ 1000000000) ∧ (-1000000000 ≤ a.y ∧ a.y ≤ 1000000000)) : Calls Tryz.prog 42 #[.agg (stC v s), .int .i64 X, .int .i64 Y] w fun e w' => ∃ v', e = .returned (.agg (stC v' (shS X Y s))) ∧ OwnE spE w.heap.size v' (shS X Y s).pts w' ∧ Below w.heap.size w w' := by
 have B := Below.refl w.heap.size w
 obtain ⟨a, c, rfl, hc⟩ := rs.len
 have HOK := Lib.hid hok
 have HRS := Lib.hid rs
 clear hok rs
 go_enter Tryz.func42, Tryz.ntmps42
 go_upto_region 0 with fail
 refine wp_region_lit ?_
 try simp only [gelS]
 (refine wpList_boxB (t := 30) rfl _ rfl _ rfl (alK B ?_); clear B; intro b_r3 wn hle hge r3 hbn hsz hln B; simp only [putS])
 (refine wpList_allocBk (t := 30) rfl _ (run_alloc_St _ _ rfl) (alK B ?_); clear B; intro b_r6 wn hle hge r6 hbn hsz hln B; (try have hlt := r3.lt); (try replace r3 := r3.below (hbn.mono hle)); simp only [putS])
 refine wpList_nil ?_
 have k1 : w.heap.size ≤ b_r3 := by omega
 have k2 : b_r3 < b_r6 := by have := r3.lt; omega
 have k3 := r6.lt
 go_upto_region 1 with fail
 refine wp_region_lit ?_
 try simp only [gelS]
 refine chk 1 ?_
 (refine wpList_allocBk (t := 30) rfl _ (run_alloc_St _ _ rfl) (alK B ?_); clear B; intro b_r7 wn hle hge r7 hbn hsz hln B; (try have hlt := r3.lt); (try replace r3 := r3.below (hbn.mono hle)); (try have hlt := r6.lt); (try replace r6 := r6.below (hbn.mono hle)); simp only [putS])
 (refine wpList_storeB (t := 30) rfl _ _ rfl _ rfl _ rfl r7 (by kernel_rfl) rfl (by simp [stC, Value.oneCell']) (stK B (by omega) ?_); clear r7 B; intro wn r7 hcn hsz hzn B; (try replace r3 := r3.of_eq (hcn.block _ r3.lt (by omega))); (try replace r6 := r6.of_eq (hcn.block _ r6.lt (by omega))); simp only [putS])
 refine wpList_nil ?_
 replace r7 : AtB 30 _ b_r7 (stC (.slice a s.pts.length c) s) := r7
 have k4 : b_r6 < b_r7 := by omega
 have k5 := r7.lt
 go_upto_region 2 with fail
 refine wp_region_lit ?_
 try simp only [gelS]
 (refine wpList_bs0_spE rfl rfl (alK B ?_); clear B; intro b_od wn hle hge od hbn hsz hln B; (try have hlt := r3.lt); (try replace r3 := r3.below (hbn.mono hle)); (try have hlt := r6.lt); (try replace r6 := r6.below (hbn.mono hle)); (try have hlt := r7.lt); (try replace r7 := r7.below (hbn.mono hle)); simp only [putS])
 refine chk 1 ?_
 (refine wpList_stSp (t := 30) rfl _ _ rfl _ 0 rfl _ _ _ rfl r7 rfl (stK B (by omega) ?_); clear r7 B; intro wn r7 hcn hsz hzn B; replace od := od.chg hcn (by omega); (try replace r3 := r3.of_eq (hcn.block _ r3.lt (by omega))); (try replace r6 := r6.of_eq (hcn.block _ r6.lt (by omega))); simp only [putS])
 refine wpList_nil ?_
 replace r7 : AtB 30 _ b_r7 (stC (.slice (some ⟨b_od, 0, none⟩) 0 0) s) := r7
 have k6 : b_r7 < b_od := by omega
 have k7 : b_od < wn.heap.size := by omega
 go_wp2
 go_loopw [8, 9] (fun iv _ wr => ∃ (k cp : Nat) (ad : Option Addr) (P : List Sp), k ≤ s.pts.length ∧ iv = .int .i64 (k : Int) ∧ Hid ((s.pts.take k).map (shP X Y) = P) ∧ Below w.heap.size w wr ∧ b_od < wr.heap.size ∧ AtB 30 wr b_r3 (stC (.slice a s.pts.length c) s) ∧ AtB 30 wr b_r6 #[.slice none 0 0, .int .i64 0, .int .i64 0, .int .u8 0, .int .u8 0, .int .u8 0, .int .u8 0, .bool false, .int .i64 0] ∧ AtB 30 wr b_r7 (stC (.slice ad P.length cp) s) ∧ OwnE spE b_od (.slice ad P.length cp) P wr) (fun iv _ _ => (s.pts.length - intOf iv).toNat)
 case atStart => exact ⟨0, 0, _, [], by omega, rfl, Lib.hid rfl, B, k7, r3, r6, r7, od⟩
 case round =>
  clear B k7 r3 r6 r7 od
  obtain ⟨k, cp, ad, P, hk, rfl, HP, B, k7, r3, r6, r7, od⟩ := hrel
  have r7l := r7.lt
  by_cases hkl : k < s.pts.length
  ·have q1 : decide ((k : Int) < (s.pts.length : Int)) = true := decide_eq_true (by omega)
   have q2 : decide (k < s.pts.length) = true := decide_eq_true hkl
   obtain ⟨g, o, rfl, pc0⟩ := HRS.out.at (by omega)
   have pc := pc0.of_eq (B.block _ pc0.lt)
   clear pc0
   have hp := pAt_some hkl
   have hPl : P.length ≤ 100000 := by rw [← HP.out, List.length_map, List.length_take]; omega
   obtain ⟨⟨hb1, hb2⟩, hb3, hb4⟩ := HOK.out _ (List.mem_of_getElem? hp)
   obtain ⟨x1, hx1⟩ : ∃ x, pAt s.pts k = x := ⟨_, rfl⟩
   have HN := Lib.hid (show (s.pts.take (k + 1)).map (shP X Y) = P ++ [⟨x1.x + 16 * X, x1.y + 16 * Y, x1.p⟩] from by rw [List.take_add_one, hp, List.map_append, HP.out, hx1]; rfl)
   rw [hx1] at hp hb1 hb2 hb3 hb4
   clear hx1
   have BW := B
   have HOD := Lib.hid od
   have B := Below.refl wr.heap.size wr
   have hpcl := pc.lt
   have r3l := r3.lt
   have r6l := r6.lt
   go_upto_region 4 with fail
   refine wp_region_lit ?_
   try simp only [gelS]
   refine chk 3 ?_
   refine wpList_lenS (by first | rfl | simp [Region.wanted, yielded]) rfl Tryz.underlying26 rfl ?_
   simp only [putS]
   refine chk 1 ?_
   refine wpList_nil ?_
   go_upto_region 6 with fail
   refine wp_region_lit ?_
   try simp only [gelS]
   refine chq 5 ?_
   repeat (first | go_big_quiet_skip | (go_big_quiet_want; first | ((first | refine quiet_loadAny (t := 43) rfl _ _ _ rfl (fun w hw => (ov_rce pc w hw).load Tryz.isAgg43 hp) (by first | rfl | omega) ?_ | refine qB ?_ | refine qC ?_); simp only [putS]; go_big_quiet_on) | (go_big_quiet_op; go_big_quiet_on)))
   refine wpQuiet_nil ?_
   (refine wpList_allocBk (t := 43) rfl _ (run_alloc_Sp _ _ rfl) (alK B ?_); clear B; intro b_p9 wn hle hge p9 hbn hsz hln B; (try have hlt := r3.lt); (try replace r3 := r3.below (hbn.mono hle)); (try have hlt := r6.lt); (try replace r6 := r6.below (hbn.mono hle)); (try have hlt := r7.lt); (try replace r7 := r7.below (hbn.mono hle)); (try have hlt := pc.lt); (try replace pc := pc.below (hbn.mono hle)); simp only [putS])
   (refine wpList_storeB (t := 43) rfl _ _ rfl _ rfl _ rfl p9 (by kernel_rfl) rfl (by simp [spE, Value.oneCell']) (stK B (by omega) ?_); clear p9 B; intro wn p9 hcn hsz hzn B; (try replace r3 := r3.of_eq (hcn.block _ r3.lt (by omega))); (try replace r6 := r6.of_eq (hcn.block _ r6.lt (by omega))); (try replace r7 := r7.of_eq (hcn.block _ r7.lt (by omega))); (try replace pc := pc.of_eq (hcn.block _ pc.lt (by omega))); simp only [putS])
   refine wpList_nil ?_
   replace p9 : AtB 43 _ b_p9 (spE.enc x1) := p9
   replace od := HOD.out.below B
   have B0 := BW.trans (B.mono BW.size)
   clear B pc
   have B := B0
   clear B0 BW
   have k7 : b_od < wn.heap.size := by omega
   go_upto_region 7 with fail
   refine wp_region_lit ?_
   try simp only [gelS]
   refine chk 15 ?_
   (refine wpList_bs1E (E := spE) rfl _ rfl (⟨x1.x + 16 * X, x1.y + 16 * Y, x1.p⟩) rfl (by omega) (alK B ?_); clear B; intro b_s40 wn hle hge s40 hbn hsz hln B; replace od := od.below (hbn.mono hle); (try have hlt := r3.lt); (try replace r3 := r3.below (hbn.mono hle)); (try have hlt := r6.lt); (try replace r6 := r6.below (hbn.mono hle)); (try have hlt := r7.lt); (try replace r7 := r7.below (hbn.mono hle)); (try have hlt := p9.lt); simp only [putS])
   (at_builtin; refine wpList_appendE rfl _ _ rfl _ _ rfl rfl od ((RSE.one s40)) (by simp only [List.length_append, List.length_cons, List.length_nil]; omega) (by omega) ?_; intro v_od wn ht hbn; have hsz := B.size; have hbz := hbn.size; replace B := B.trans (hbn.mono (by omega)); clear od; (try replace r3 := r3.of_eq (hbn.block _ (by omega))); (try replace r6 := r6.of_eq (hbn.block _ (by omega))); (try replace r7 := r7.of_eq (hbn.block _ (by omega))); have od := ht; clear ht; obtain ⟨a_od, c_od, hv, hco⟩ := od.len; (try simp only [List.length_append, List.length_cons, List.length_nil, Nat.zero_add] at hv hco); subst hv; simp only [putS])
   refine chk 1 ?_
   (refine wpList_stSp (t := 30) rfl _ _ rfl _ 0 rfl _ _ _ rfl r7 rfl (stK B (by omega) ?_); clear r7 B; intro wn r7 hcn hsz hzn B; replace od := od.chg hcn (by omega); (try replace r3 := r3.of_eq (hcn.block _ r3.lt (by omega))); (try replace r6 := r6.of_eq (hcn.block _ r6.lt (by omega))); simp only [putS])
   refine wpList_nil ?_
   replace r7 : AtB 30 _ b_r7 (stC (.slice a_od (P.length + 1) c_od) s) := r7
   go_upto_region 5 with fail
   refine wp_region_lit ?_
   try simp only [gelS]
   refine chk 3 ?_
   refine wpList_nil ?_
   go_wp2
   go_roundw
   case rel => exact ⟨k + 1, _, _, P ++ [⟨x1.x + 16 * X, x1.y + 16 * Y, x1.p⟩], by omega, by go_num, HN, B, by omega, r3, r6, by rw [List.length_append]; exact r7, by rw [List.length_append]; exact od⟩
   case measure => simp [intOf]; omega
  ·have q1 : decide ((k : Int) < (s.pts.length : Int)) = false := decide_eq_false (by omega)
   have q2 : decide (k < s.pts.length) = false := decide_eq_false hkl
   have HF := Lib.hid (show (shS X Y s).pts = P from by rw [← HP.out, List.take_of_length_le (by omega)]; rfl)
   go_upto_region 4 with fail
   refine wp_region_lit ?_
   try simp only [gelS]
   refine chk 3 ?_
   refine wpList_lenS (by first | rfl | simp [Region.wanted, yielded]) rfl Tryz.underlying26 rfl ?_
   simp only [putS]
   refine chk 1 ?_
   refine wpList_nil ?_
   go_upto_region 8 with fail
   refine wp_region_lit ?_
   try simp only [gelS]
   refine chk 1 ?_
   (refine wpList_storeB (t := 30) rfl _ _ rfl _ rfl _ rfl r6 (by kernel_rfl) rfl (by simp [stC, Value.oneCell']) (stK B (by omega) ?_); clear r6 B; intro wn r6 hcn hsz hzn B; replace od := od.chg hcn (by omega); simp only [putS])
   refine wpList_nil ?_
   first | (refine bodyPost_ret (results_B (t := 30) rfl _ _ (b_r6) rfl r6 Tryz.isAgg30 (by kernel_rfl)) rfl ?_) | (go_step; refine bodyPost_ret (results_B (t := 30) rfl _ _ (b_r6) rfl r6 Tryz.isAgg30 (by kernel_rfl)) rfl ?_) | (go_step; go_step; refine bodyPost_ret (results_B (t := 30) rfl _ _ (b_r6) rfl r6 Tryz.isAgg30 (by kernel_rfl)) rfl ?_) | (go_step; go_step; go_step; refine bodyPost_ret (results_B (t := 30) rfl _ _ (b_r6) rfl r6 Tryz.isAgg30 (by kernel_rfl)) rfl ?_) | (go_step; go_step; go_step; go_step; refine bodyPost_ret (results_B (t := 30) rfl _ _ (b_r6) rfl r6 Tryz.isAgg30 (by kernel_rfl)) rfl ?_) | (go_step; go_step; go_step; go_step; go_step; refine bodyPost_ret (results_B (t := 30) rfl _ _ (b_r6) rfl r6 Tryz.isAgg30 (by kernel_rfl)) rfl ?_)
   have e4 : stC (.slice ad P.length cp) s = stC (.slice ad P.length cp) (shS X Y s) := rfl
   rw [HF.out, e4]
   exact ⟨_, rfl, od.mono (by omega), B⟩
/- Contract of Paste of the reference. -/
end Go.Proofs.YtepelndbbhdofaaGreatDoor
/- Paste of both packages, whether the rectangle fits or not. -/
namespace Go.Proofs.YtepelndbbhdofaaGreatDoor
open Go.RowKit Go.Shelf Pl
set_option linter.unusedVariables false
set_option linter.unusedSimpArgs false
theorem P_PasteA (v : Value) (ls : List TA) (c : Rc) (u : Value) (L : List Px) (w : World) (h : RS v ls w) (tk : TokL ls) (hn : ls.length ≤ maxLen) (hu : RSE pxE u L w) (hLn : L.length ≤ maxLen) (okL : OkL L) : Calls Tryz.prog 77 #[.agg #[v], .agg (imgC c u)] w fun e w' => ∃ a cp, e = .returned (.tuple #[.agg #[.slice a (pstR c L ls).length cp], .int .i64 (pstE c L ls)]) ∧ RS (.slice a (pstR c L ls).length cp) (pstR c L ls) w' ∧ Below w.heap.size w w' := by
 obtain ⟨ad, cu, rfl, hcu⟩ := hu.len
 by_cases hV : validR c = true
 ·by_cases hA : (L.length : Int) = areaR c
  ·have e1 : pstR c L ls = if fitsE c = 0 then manyL (pstL c L (fineL ls) (posL c)) else [] := if_pos ⟨hV, hA⟩
   have e2 : pstE c L ls = if fitsE c = 0 then manyE (pstL c L (fineL ls) (posL c)) else fitsE c := if_pos ⟨hV, hA⟩
   by_cases hF : fitsE c = 0
   ·rw [e1, e2, if_pos hF, if_pos hF]
    have hL : L.length = areaN c := by have := area_N (fitsE_zero hF); omega
    exact P_Paste_ok v ls c _ L w h tk hn hF hu hL okL
   ·rw [e1, e2, if_neg hF, if_neg hF]
    refine (P_Paste_big v ls c ad L.length cu w h hLn hV hA.symm _ rfl hF).mono fun e w' ⟨he, hb⟩ => ?_
    exact ⟨none, 0, he, RS.nil _, hb⟩
  ·have e1 : pstR c L ls = [] := if_neg (fun e => hA e.2)
   have e2 : pstE c L ls = 1 := if_neg (fun e => hA e.2)
   rw [e1, e2]
   refine (P_Paste_len v ls c ad L.length cu w h hLn hV _ rfl hA).mono fun e w' ⟨he, hb⟩ => ?_
   exact ⟨none, 0, he, RS.nil _, hb⟩
 ·have e1 : pstR c L ls = [] := if_neg (fun e => hV e.1)
  have e2 : pstE c L ls = 1 := if_neg (fun e => hV e.1)
  rw [e1, e2]
  refine (P_Paste_inv v ls c ad L.length cu w h hLn (by simpa using hV)).mono fun e w' ⟨he, hb⟩ => ?_
  exact ⟨none, 0, he, RS.nil _, hb⟩
theorem P_PasteB (v : Value) (ls ks : List TA) (E : Int) (c : Rc) (u : Value) (L : List Px) (w : World) (h : RS v ls w) (tk : TokL ls) (hn : ls.length ≤ maxLen) (hu : RSE pxE u L w) (hLn : L.length ≤ maxLen) (okL : OkL L) (e1 : pstR c L ls = ks) (e2 : pstE c L ls = E) : Calls Tryz.prog 77 #[.agg #[v], .agg (imgC c u)] w fun e w' => ∃ a cp, e = .returned (.tuple #[.agg #[.slice a ks.length cp], .int .i64 E]) ∧ RS (.slice a ks.length cp) ks w' ∧ Below w.heap.size w w' := by
 subst e1 e2
 exact P_PasteA v ls c u L w h tk hn hu hLn okL
end Go.Proofs.YtepelndbbhdofaaGreatDoor
/- Painting strokes: regions that draw their order within a round; an image that the call owns; the two closures. -/
namespace Go.Proofs.YtepelndbbhdofaaGreatDoor
open Go.RowKit Go.Shelf Pl
set_option linter.unusedVariables false
set_option linter.unusedSimpArgs false
set_option maxRecDepth 20000
theorem NoPan_only (K : Act → World → Prop) : NoPan (Only K) = Only K := by
 funext e a w
 cases e <;> rfl
section
variable {P : Program} {n0 r : Nat}
/-- A region that draws its order, within a round: as wp_region_RL. -/
theorem round_RL {id : Nat} {Q : Exit → Act → World → Prop} {a : Act} {w : World} {l : List Oper} (hd : noDefer l = true) (n : Nat) (S : List (Nat × NSpec)) (hm : P.follows .mixedOrders = true) (hB : relTailB .any l.toArray n = true) (hS0 : specsB l.toArray (S.map (·.1)) = true)
  (h : wpRL P .any l.toArray (Only fun a w => Q .normal a w) (fun w' => ∃ u, w' = ov w u) (specs S) (fun E a' => ∀ w', Below w.heap.size w w' → (∀ j, E j w') → wpList P l.toArray (NoPan (Only fun a w => Q .normal a w)) (l.drop n) a' w') (l.take n) 0 (fun _ _ => True) a) : (Code.region id l.toArray true).wpIn (Fence.wide.inRound r) n0 P Q a w := by
 have hn : n ≤ l.length := by
  have hB' := hB
  simp only [relTailB, Bool.and_eq_true, decide_eq_true_eq] at hB'
  simpa using hB'.1.1.1
 have hlen : (l.take n).length = n := by simp; omega
 have h' := h fun j hj => by
  rw [hlen] at hj
  simp [hj]
 rw [hlen, ← List.range_eq_range'] at h'
 have hS := specs_pure hS0
 simp only [relTailB, Bool.and_eq_true, decide_eq_true_eq] at hB
 obtain ⟨⟨⟨hn, hR⟩, htl⟩, hseq⟩ := hB
 refine round_any hm hd ?_
 rw [← NoPan_only]
 have hdl : (l.drop n).length = l.toArray.size - n := by simp
 have := wpAny_of_R (P := P) (Q := Only fun a w => Q .normal a w) (md := .any) (C := fun w' => ∃ u, w' = ov w u) (S := specs S) (g := (l.drop n).length) hR htl (fun w1 w2 ⟨u, hu⟩ hb => by
   subst hu
   exact ⟨w2, ov_of ((ov_below w u).trans (hb.mono (ov_below w u).size))⟩) hS
  (L := fun E a' => ∀ w', Below w.heap.size w w' → (∀ j, E j w') → wpList P l.toArray (NoPan (Only fun a w => Q .normal a w)) (l.drop n) a' w')
  (fun listed a' E w' hsz hall hL ⟨u, hu⟩ hE => by
   have hT : listed = Array.replicate n true ++ Array.replicate (l.toArray.size - n) false := by
    apply Array.ext_getElem?
    intro j
    rw [Array.getElem?_append, Array.size_replicate]
    by_cases hjs : j < l.toArray.size
    ·have hjl : j < listed.size := by omega
     have h1 := hall j hjs
     rw [Array.getD_eq_getD_getElem?, Array.getElem?_eq_getElem hjl, Option.getD_some] at h1
     rw [Array.getElem?_eq_getElem hjl, h1]
     by_cases hj : j < n
     ·rw [if_pos hj, Array.getElem?_replicate, if_pos hj, decide_eq_true hj]
     ·rw [if_neg hj, Array.getElem?_replicate, if_pos (by omega), decide_eq_false hj]
    ·rw [Array.getElem?_eq_none (by omega), if_neg (by omega), Array.getElem?_replicate, if_neg (by omega)]
   rw [hT]
   refine wpAny_of_seq (l.drop n) n _ a' w' (fun j => by simp [List.getElem?_drop]) (by rw [hdl]; exact hseq) ?_
   subst hu
   exact hL _ (ov_below w u) hE)
  n (List.range n) (Array.replicate l.toArray.size false) a (fun _ _ => True) w.drew (by simp) List.pairwise_lt_range (by simp) (fun k => by
   rw [List.mem_range, decide_eq_true_eq]
   refine ⟨fun hk => ⟨by omega, hk, getD_in (by rw [Array.size_replicate]; omega) (getD_replicate_false _ _)⟩, fun hk => hk.2.1⟩)
  (fun t hts _ => getD_in (by rw [Array.size_replicate]; exact hts) (getD_replicate_false _ _)) (fun j oj _ hl => (by rw [getD_replicate_false] at hl; cases hl))
  ⟨w.drew, ov_of ((Below.refl _ _).drew)⟩ (fun _ => trivial) (fun _ _ _ _ _ => trivial) h'
 rw [hdl, show n + (l.toArray.size - n) = l.toArray.size by omega] at this
 exact this
end
/-- Two results that are blocks. -/
theorem results_BI {t u : TypeId} {fn : Func} {p r : Tmp} (h : fn.results = #[.cell p t, .cell r u]) (tmps : Array Value) (w : World) (b c : Nat) (hp : tmps.getD p undef = .pointer (some ⟨b, 0, none⟩)) (hr : tmps.getD r undef = .pointer (some ⟨c, 0, none⟩)) {cs : Array Value} {v : Value} (ht : AtB t w b cs) (hu : (Instr.loadAt u (.pointer (some ⟨c, 0, none⟩))).run Tryz.prog w = .ok v w) (hagg : ∀ w : World, (isAgg t).run Tryz.prog w = .ok true w) (hsz : (Tryz.prog.info? t).map (·.size) = some cs.size) :
  (results fn tmps).run Tryz.prog w = .ok (.tuple #[.agg cs, v]) w := by
 have hl := run_load_B ht hagg hsz
 simp only [Instr.loadAt, Instr.sureAddr, Sem.run_bind, Sem.run_pure, Result.andThen_ok] at hl hu
 unfold results
 rw [h]
 have hp' : tmps[p]?.getD undef = .pointer (some ⟨b, 0, none⟩) := by simpa using hp
 have hr' : tmps[r]?.getD undef = .pointer (some ⟨c, 0, none⟩) := by simpa using hr
 simp [hp', hr', Instr.sureAddr, asAddr, hl, hu, Sem.run_bind, Sem.run_pure, Result.andThen_ok]
/-- Tiles beside what is no block of tiles. -/
theorem RS.own3 {v : Value} {ls : List TA} {W W' : World} {row : Option Nat} (h : RS v ls W) (hg : W.grownBy W' row) (hr : ∀ r, row = some r → (∃ o : Obj, W.heap[r]? = some o ∧ o.isCells = false) ∨ ∃ cs t, W.heap[r]? = some (.cells cs t (0, 0)) ∧ cs.size = 3) : RS v ls W' := by
 rcases h with h | ⟨g, o, c, e, hcap, sc⟩
 ·exact .inl h
 ·refine .inr ⟨g, o, c, e, hcap, fun hn => (sc hn).of_eq (hg.block g (sc hn).lt fun hg => ?_)⟩
  rcases hr g hg.symm with ⟨x, hx, hc⟩ | ⟨cs, t, hx, hs⟩
  ·have h0 := (sc hn).2 0 hn 0 (by omega)
   have hs : ∃ v, (taC (aT ls 0))[0]? = some v := ⟨_, Array.getElem?_eq_getElem (by rw [size_taC]; omega)⟩
   obtain ⟨v, hv⟩ := hs
   rw [hv] at h0
   have := cell_not h0 x hx
   rw [hc] at this
   cases this
  ·have h1 := (sc hn).2 0 hn 257 (by omega)
   rw [cell_of_row W g _ cs _ (0, 0) hx] at h1
   have h2 : (taC (aT ls 0))[257]? ≠ none := by
    rw [Ne, Array.getElem?_eq_none_iff, size_taC]; omega
   rw [← h1, Ne, Array.getElem?_eq_none_iff] at h2
   omega
set_option maxHeartbeats 2000000 in
/-- Image: its pixels are a row that the call made. -/
theorem P_Image_own (v : Value) (ls : List TA) (c : Rc) (w : World) (h : RS v ls w) (tk : TokL ls) (hv : validL ls = true) (hE : fitsE c = 0) : Calls Tryz.prog 76 #[.agg #[v], .agg (rcA c)] w fun e w' => ∃ cb, w.heap.size ≤ cb ∧ e = .returned (.tuple #[.agg (imgC c (.slice (some ⟨cb, 0, none⟩) (areaN c) (areaN c))), .int .i64 0]) ∧ RowAt pxE w' cb (imgL c ls) ∧ Below w.heap.size w w' := by
 have B := Below.refl w.heap.size w
 have hn : ls.length ≤ maxLen := by have := (validL_iff.1 hv).1; unfold maxLen; omega
 have HIM := Lib.hid (show imgPL c (fineL ls) = imgL c ls from by rw [fineL_of hv]; exact imgPL_eq (fitsE_zero hE) hv)
 obtain ⟨a', c', hT⟩ := P_tiles v ls w h tk hn
 have HR0 := Lib.hid (hT w (Below.refl _ _)).2
 have HT := Lib.hid hT
 clear hT
 obtain ⟨a, cp, rfl, hc⟩ := h.len
 have TK := Lib.hid (fineL_tok tk)
 have HP := Lib.hid (fine_pos ls)
 have hfl := fineL_length ls
 have FT := Lib.hid (fitsE_zero hE)
 obtain ⟨an1, an2⟩ := area_bd FT.out
 have AR : Hid (∀ w, Calls Tryz.prog 125 #[.agg #[.int .i64 c.x0, .int .i64 c.y0, .int .i64 c.x1, .int .i64 c.y1]] w fun e w' => e = .returned (.int .i64 (areaN c : Int)) ∧ Below w.heap.size w w') := Lib.hid fun w => by
  have := P_Area c w FT.out.valid
  rw [area_N FT.out] at this
  exact this
 have FE : Hid (∀ w, Calls Tryz.prog 124 #[.agg #[.int .i64 c.x0, .int .i64 c.y0, .int .i64 c.x1, .int .i64 c.y1]] w fun e w' => e = .returned (.int .i64 0) ∧ Below w.heap.size w w') := Lib.hid fun w => by
  have := P_fits c w
  rw [hE] at this
  exact this
 have eg := enters_of Tryz.func127 (by kernel_rfl) rfl
 clear h tk hE hv
 show Calls Tryz.prog 76 #[.agg #[.slice a ls.length cp], .agg #[.int .i64 c.x0, .int .i64 c.y0, .int .i64 c.x1, .int .i64 c.y1]] w _
 go_enter Tryz.func76, Tryz.ntmps76
 go_upto_region 4 with (first | (go_at_call 124; refine (FE.out _).mono ?_; rintro e wn ⟨rfl, hbn⟩; have hsz := B.size; have hzn := hbn.size; replace B := B.trans (hbn.mono B.size); (try replace r1 := r1.below hbn); (try replace r0 := r0.below hbn); (try replace m4 := m4.below hbn); (try replace m7 := m7.below hbn); (try replace row := row.below hbn)) | (refine wpList_loadAny (t := 38) rfl _ rfl _ _ _ rfl (run_load_rc r0) (by rfl) ?_; simp only [putS]) | (have _ := r0; refine wpList_allocBk (t := 117) rfl _ (run_alloc_Im _ _ rfl) (alK B ?_); clear B; intro b_m4 wn hle hge m4 hbn hsz hln B; (try have hlt := r1.lt); (try replace r1 := r1.below (hbn.mono hle)); (try have hlt := r0.lt); (try replace r0 := r0.below (hbn.mono hle)); (try have hlt := m4.lt); (try replace m4 := m4.below (hbn.mono hle)); (try have hlt := m7.lt); (try replace m7 := m7.below (hbn.mono hle)); (try have hlt := row.lt); (try replace row := row.below (hbn.mono hle)); simp only [putS]) | (have _ := r1; refine wpList_boxB (t := 38) rfl _ rfl _ rfl (alK B ?_); clear B; intro b_r0 wn hle hge r0 hbn hsz hln B; (try have hlt := r1.lt); (try replace r1 := r1.below (hbn.mono hle)); (try have hlt := r0.lt); (try replace r0 := r0.below (hbn.mono hle)); (try have hlt := m4.lt); (try replace m4 := m4.below (hbn.mono hle)); (try have hlt := m7.lt); (try replace m7 := m7.below (hbn.mono hle)); (try have hlt := row.lt); (try replace row := row.below (hbn.mono hle)); simp only [putS]) | (refine wpList_boxB (t := 64) rfl _ rfl _ rfl (alK B ?_); clear B; intro b_r1 wn hle hge r1 hbn hsz hln B; (try have hlt := r1.lt); (try replace r1 := r1.below (hbn.mono hle)); (try have hlt := r0.lt); (try replace r0 := r0.below (hbn.mono hle)); (try have hlt := m4.lt); (try replace m4 := m4.below (hbn.mono hle)); (try have hlt := m7.lt); (try replace m7 := m7.below (hbn.mono hle)); (try have hlt := row.lt); (try replace row := row.below (hbn.mono hle)); simp only [putS]) | fail)
 have q1 : w.heap.size ≤ b_r1 := by omega
 have q2 : b_r1 < b_r0 := by omega
 have q3 : b_r0 < b_m4 := by omega
 have q4 := m4.lt
 go_cut [7] from 14 to 18 (fun s wx => ∃ b_m7 b_row, s = .pointer (some ⟨b_m7, 0, none⟩) ∧ AtB 117 wx b_m7 (imgC c (.slice (some ⟨b_row, 0, none⟩) (areaN c) (areaN c))) ∧ RowAt pxE wx b_row (List.replicate (areaN c) Px.zero) ∧ Below w.heap.size w wx ∧ b_m4 < b_m7 ∧ b_m4 < b_row ∧ b_m7 ≠ b_row ∧ AtB 64 wx b_r1 #[.slice a ls.length cp] ∧ AtB 38 wx b_r0 (rcA c) ∧ AtB 117 wx b_m4 (imgC Rc.zero (.slice none 0 0)))
 case first =>
  try have r1B := r1
  try have r0B := r0
  try have m4B := m4
  try have m7B := m7
  try have rowB := row
  refine wp_region_X0 6 #[false, false, false, false, false, false, false] (by kernel_rfl) (by kernel_rfl) ?_
  intro wn hbn
  have hX := hbn
  have hsz := B.size
  have hzn := hbn.size
  replace B := B.trans (hbn.mono B.size)
  try replace r1 := r1.below hbn
  try replace r0 := r0.below hbn
  try replace m4 := m4.below hbn
  try replace m7 := m7.below hbn
  try replace row := row.below hbn
  simp only [List.length_cons, List.length_nil, Nat.reduceAdd]
  refine anyX_take 0 rfl (by kernel_rfl) ⟨_, ov_of hX⟩ ?_
  intro K hK
  try simp only [gelS]
  (first | (refine quiet_loadAny (t := 38) rfl _ _ _ rfl (fun w hw => run_load_rc (ov_B r0B w hw)) (by rfl) ?_; simp only [putS]; go_big_quiet_on) | (go_big_quiet_op; go_big_quiet_on))
  simp only [putS]
  refine anyX_take 1 rfl (by kernel_rfl) ⟨_, ov_of hX⟩ ?_
  intro K hK
  try simp only [gelS]
  (first | (refine quiet_loadAny (t := 38) rfl _ _ _ rfl (fun w hw => run_load_rc (ov_B r0B w hw)) (by rfl) ?_; simp only [putS]; go_big_quiet_on) | (go_big_quiet_op; go_big_quiet_on))
  simp only [putS]
  refine anyX_two 2 5 rfl rfl (by kernel_rfl) rfl rfl (fun K hK => ?_) (fun K hK => ?_)
  ·skip
   try simp only [gelS]
   go_simp
   go_at_call 125
   refine (AR.out _).mono ?_
   rintro e wn ⟨rfl, hbn⟩
   have hsz := B.size
   have hzn := hbn.size
   have hsx := hX.size
   replace B := B.trans (hbn.mono B.size)
   replace hX := hX.trans (hbn.mono hX.size)
   try replace r1 := r1.below hbn
   try replace r0 := r0.below hbn
   try replace m4 := m4.below hbn
   try replace m7 := m7.below hbn
   try replace row := row.below hbn
   refine hK _ _ ⟨fun _ => ⟨_, ov_of hX⟩, ?_⟩
   clear hK K
   try simp only [gelS]
   simp only [putS]
   refine anyX_two 3 5 rfl rfl (by kernel_rfl) rfl rfl (fun K hK => ?_) (fun K hK => ?_)
   ·skip
    try simp only [gelS]
    refine owp_makeE (E := pxE) _ _ rfl (areaN c) (by rfl) (by rfl) (by omega) (by omega) ?_
    intro b_row wn hle hge ht hbn hzn
    have hsz := B.size
    have hsx := hX.size
    replace B := B.trans (hbn.mono (by omega))
    replace hX := hX.trans (hbn.mono (by omega))
    try first | (have hlt := r1.lt; replace r1 := r1.of_eq (hbn.block _ (by omega))) | replace r1 := r1.below (hbn.mono hle)
    try first | (have hlt := r0.lt; replace r0 := r0.of_eq (hbn.block _ (by omega))) | replace r0 := r0.below (hbn.mono hle)
    try first | (have hlt := m4.lt; replace m4 := m4.of_eq (hbn.block _ (by omega))) | replace m4 := m4.below (hbn.mono hle)
    try first | (have hlt := m7.lt; replace m7 := m7.of_eq (hbn.block _ (by omega))) | replace m7 := m7.below (hbn.mono hle)
    try first | (have hlt := row.lt; replace row := row.of_eq (hbn.block _ (by omega))) | replace row := row.below (hbn.mono hle)
    have row := ht
    clear ht
    refine hK _ _ ⟨fun _ => ⟨_, ov_of hX⟩, ?_⟩
    clear hK K
    try simp only [gelS]
    simp only [putS]
    refine anyX_take 4 rfl (by kernel_rfl) ⟨_, ov_of hX⟩ ?_
    intro K hK
    try simp only [gelS]
    (first | (refine quiet_loadAny (t := 38) rfl _ _ _ rfl (fun w hw => run_load_rc (ov_B r0B w hw)) (by rfl) ?_; simp only [putS]; go_big_quiet_on) | (go_big_quiet_op; go_big_quiet_on))
    simp only [putS]
    refine anyX_next 5 rfl (by kernel_rfl) rfl (fun K hK => ?_)
    try simp only [gelS]
    refine owp_allocBk (t := 117) _ (run_alloc_Im _ _ rfl) ?_
    intro b_m7 wn hle hge ht hbn hzn
    have hsz := B.size
    have hsx := hX.size
    replace B := B.trans (hbn.mono (by omega))
    replace hX := hX.trans (hbn.mono (by omega))
    try first | (have hlt := r1.lt; replace r1 := r1.of_eq (hbn.block _ (by omega))) | replace r1 := r1.below (hbn.mono hle)
    try first | (have hlt := r0.lt; replace r0 := r0.of_eq (hbn.block _ (by omega))) | replace r0 := r0.below (hbn.mono hle)
    try first | (have hlt := m4.lt; replace m4 := m4.of_eq (hbn.block _ (by omega))) | replace m4 := m4.below (hbn.mono hle)
    try first | (have hlt := m7.lt; replace m7 := m7.of_eq (hbn.block _ (by omega))) | replace m7 := m7.below (hbn.mono hle)
    try first | (have hlt := row.lt; replace row := row.of_eq (hbn.block _ (by omega))) | replace row := row.below (hbn.mono hle)
    have m7 := ht
    clear ht
    refine hK _ _ ⟨fun _ => ⟨_, ov_of hX⟩, ?_⟩
    clear hK K
    try simp only [gelS]
    simp only [putS]
    refine anyX_seq (by kernel_rfl) (by kernel_rfl) ?_
    simp only [List.drop_succ_cons, List.drop_zero]
    go_wp2_with (first | (refine wpList_storeB (t := 117) rfl _ _ rfl _ rfl _ rfl m7 (by kernel_rfl) rfl (by simp [imgC, Value.oneCell']) (stK B (by omega) ?_); clear m7 B; intro wn m7 hcn hsz hzn B; (try replace r1 := r1.of_eq (hcn.block _ r1.lt (by omega))); (try replace r0 := r0.of_eq (hcn.block _ r0.lt (by omega))); (try replace m4 := m4.of_eq (hcn.block _ m4.lt (by omega))); (try replace row := row.of_eq (hcn.block _ row.lt (by omega))); simp only [putS]) | fail)
    refine NoPan.normal ?_
    go_wp2_with fail
    go_meet
    exact ⟨b_m7, b_row, rfl, m7, row, B, by omega, by omega, by omega, r1, r0, m4⟩
   ·skip
    try simp only [gelS]
    refine owp_allocBk (t := 117) _ (run_alloc_Im _ _ rfl) ?_
    intro b_m7 wn hle hge ht hbn hzn
    have hsz := B.size
    have hsx := hX.size
    replace B := B.trans (hbn.mono (by omega))
    replace hX := hX.trans (hbn.mono (by omega))
    try first | (have hlt := r1.lt; replace r1 := r1.of_eq (hbn.block _ (by omega))) | replace r1 := r1.below (hbn.mono hle)
    try first | (have hlt := r0.lt; replace r0 := r0.of_eq (hbn.block _ (by omega))) | replace r0 := r0.below (hbn.mono hle)
    try first | (have hlt := m4.lt; replace m4 := m4.of_eq (hbn.block _ (by omega))) | replace m4 := m4.below (hbn.mono hle)
    try first | (have hlt := m7.lt; replace m7 := m7.of_eq (hbn.block _ (by omega))) | replace m7 := m7.below (hbn.mono hle)
    try first | (have hlt := row.lt; replace row := row.of_eq (hbn.block _ (by omega))) | replace row := row.below (hbn.mono hle)
    have m7 := ht
    clear ht
    refine hK _ _ ⟨fun _ => ⟨_, ov_of hX⟩, ?_⟩
    clear hK K
    try simp only [gelS]
    simp only [putS]
    refine anyX_next 3 rfl (by kernel_rfl) rfl (fun K hK => ?_)
    try simp only [gelS]
    refine owp_makeE (E := pxE) _ _ rfl (areaN c) (by rfl) (by rfl) (by omega) (by omega) ?_
    intro b_row wn hle hge ht hbn hzn
    have hsz := B.size
    have hsx := hX.size
    replace B := B.trans (hbn.mono (by omega))
    replace hX := hX.trans (hbn.mono (by omega))
    try first | (have hlt := r1.lt; replace r1 := r1.of_eq (hbn.block _ (by omega))) | replace r1 := r1.below (hbn.mono hle)
    try first | (have hlt := r0.lt; replace r0 := r0.of_eq (hbn.block _ (by omega))) | replace r0 := r0.below (hbn.mono hle)
    try first | (have hlt := m4.lt; replace m4 := m4.of_eq (hbn.block _ (by omega))) | replace m4 := m4.below (hbn.mono hle)
    try first | (have hlt := m7.lt; replace m7 := m7.of_eq (hbn.block _ (by omega))) | replace m7 := m7.below (hbn.mono hle)
    try first | (have hlt := row.lt; replace row := row.of_eq (hbn.block _ (by omega))) | replace row := row.below (hbn.mono hle)
    have row := ht
    clear ht
    refine hK _ _ ⟨fun _ => ⟨_, ov_of hX⟩, ?_⟩
    clear hK K
    try simp only [gelS]
    simp only [putS]
    refine anyX_take 4 rfl (by kernel_rfl) ⟨_, ov_of hX⟩ ?_
    intro K hK
    try simp only [gelS]
    (first | (refine quiet_loadAny (t := 38) rfl _ _ _ rfl (fun w hw => run_load_rc (ov_B r0B w hw)) (by rfl) ?_; simp only [putS]; go_big_quiet_on) | (go_big_quiet_op; go_big_quiet_on))
    simp only [putS]
    refine anyX_seq (by kernel_rfl) (by kernel_rfl) ?_
    simp only [List.drop_succ_cons, List.drop_zero]
    go_wp2_with (first | (refine wpList_storeB (t := 117) rfl _ _ rfl _ rfl _ rfl m7 (by kernel_rfl) rfl (by simp [imgC, Value.oneCell']) (stK B (by omega) ?_); clear m7 B; intro wn m7 hcn hsz hzn B; (try replace r1 := r1.of_eq (hcn.block _ r1.lt (by omega))); (try replace r0 := r0.of_eq (hcn.block _ r0.lt (by omega))); (try replace m4 := m4.of_eq (hcn.block _ m4.lt (by omega))); (try replace row := row.of_eq (hcn.block _ row.lt (by omega))); simp only [putS]) | fail)
    refine NoPan.normal ?_
    go_wp2_with fail
    go_meet
    exact ⟨b_m7, b_row, rfl, m7, row, B, by omega, by omega, by omega, r1, r0, m4⟩
  ·skip
   try simp only [gelS]
   refine owp_allocBk (t := 117) _ (run_alloc_Im _ _ rfl) ?_
   intro b_m7 wn hle hge ht hbn hzn
   have hsz := B.size
   have hsx := hX.size
   replace B := B.trans (hbn.mono (by omega))
   replace hX := hX.trans (hbn.mono (by omega))
   try first | (have hlt := r1.lt; replace r1 := r1.of_eq (hbn.block _ (by omega))) | replace r1 := r1.below (hbn.mono hle)
   try first | (have hlt := r0.lt; replace r0 := r0.of_eq (hbn.block _ (by omega))) | replace r0 := r0.below (hbn.mono hle)
   try first | (have hlt := m4.lt; replace m4 := m4.of_eq (hbn.block _ (by omega))) | replace m4 := m4.below (hbn.mono hle)
   try first | (have hlt := m7.lt; replace m7 := m7.of_eq (hbn.block _ (by omega))) | replace m7 := m7.below (hbn.mono hle)
   try first | (have hlt := row.lt; replace row := row.of_eq (hbn.block _ (by omega))) | replace row := row.below (hbn.mono hle)
   have m7 := ht
   clear ht
   refine hK _ _ ⟨fun _ => ⟨_, ov_of hX⟩, ?_⟩
   clear hK K
   try simp only [gelS]
   simp only [putS]
   refine anyX_next 2 rfl (by kernel_rfl) rfl (fun K hK => ?_)
   try simp only [gelS]
   go_simp
   go_at_call 125
   refine (AR.out _).mono ?_
   rintro e wn ⟨rfl, hbn⟩
   have hsz := B.size
   have hzn := hbn.size
   have hsx := hX.size
   replace B := B.trans (hbn.mono B.size)
   replace hX := hX.trans (hbn.mono hX.size)
   try replace r1 := r1.below hbn
   try replace r0 := r0.below hbn
   try replace m4 := m4.below hbn
   try replace m7 := m7.below hbn
   try replace row := row.below hbn
   refine hK _ _ ⟨fun _ => ⟨_, ov_of hX⟩, ?_⟩
   clear hK K
   try simp only [gelS]
   simp only [putS]
   refine anyX_next 3 rfl (by kernel_rfl) rfl (fun K hK => ?_)
   try simp only [gelS]
   refine owp_makeE (E := pxE) _ _ rfl (areaN c) (by rfl) (by rfl) (by omega) (by omega) ?_
   intro b_row wn hle hge ht hbn hzn
   have hsz := B.size
   have hsx := hX.size
   replace B := B.trans (hbn.mono (by omega))
   replace hX := hX.trans (hbn.mono (by omega))
   try first | (have hlt := r1.lt; replace r1 := r1.of_eq (hbn.block _ (by omega))) | replace r1 := r1.below (hbn.mono hle)
   try first | (have hlt := r0.lt; replace r0 := r0.of_eq (hbn.block _ (by omega))) | replace r0 := r0.below (hbn.mono hle)
   try first | (have hlt := m4.lt; replace m4 := m4.of_eq (hbn.block _ (by omega))) | replace m4 := m4.below (hbn.mono hle)
   try first | (have hlt := m7.lt; replace m7 := m7.of_eq (hbn.block _ (by omega))) | replace m7 := m7.below (hbn.mono hle)
   try first | (have hlt := row.lt; replace row := row.of_eq (hbn.block _ (by omega))) | replace row := row.below (hbn.mono hle)
   have row := ht
   clear ht
   refine hK _ _ ⟨fun _ => ⟨_, ov_of hX⟩, ?_⟩
   clear hK K
   try simp only [gelS]
   simp only [putS]
   refine anyX_take 4 rfl (by kernel_rfl) ⟨_, ov_of hX⟩ ?_
   intro K hK
   try simp only [gelS]
   (first | (refine quiet_loadAny (t := 38) rfl _ _ _ rfl (fun w hw => run_load_rc (ov_B r0B w hw)) (by rfl) ?_; simp only [putS]; go_big_quiet_on) | (go_big_quiet_op; go_big_quiet_on))
   simp only [putS]
   refine anyX_seq (by kernel_rfl) (by kernel_rfl) ?_
   simp only [List.drop_succ_cons, List.drop_zero]
   go_wp2_with (first | (refine wpList_storeB (t := 117) rfl _ _ rfl _ rfl _ rfl m7 (by kernel_rfl) rfl (by simp [imgC, Value.oneCell']) (stK B (by omega) ?_); clear m7 B; intro wn m7 hcn hsz hzn B; (try replace r1 := r1.of_eq (hcn.block _ r1.lt (by omega))); (try replace r0 := r0.of_eq (hcn.block _ r0.lt (by omega))); (try replace m4 := m4.of_eq (hcn.block _ m4.lt (by omega))); (try replace row := row.of_eq (hcn.block _ row.lt (by omega))); simp only [putS]) | fail)
   refine NoPan.normal ?_
   go_wp2_with fail
   go_meet
   exact ⟨b_m7, b_row, rfl, m7, row, B, by omega, by omega, by omega, r1, r0, m4⟩
 case rest =>
  obtain ⟨b_m7, b_row, rfl, m7, row, B, p1, p2, p3, r1, r0, m4⟩ := hcut
  have k0 : w.heap.size ≤ b_row := by omega
  have k1 : b_r0 ≠ b_row := by omega
  have k2 : b_m7 ≠ b_row := p3
  have k3 : b_m4 ≠ b_row := by omega
  have k4 : b_m7 ≠ b_m4 := by omega
  go_wp2_with (first | (refine wpList_storeB (t := 117) rfl _ _ rfl _ rfl _ rfl m4 (by kernel_rfl) rfl (by simp [imgC, Value.oneCell']) (stK B (by omega) ?_); clear m4 B; intro wn m4 hcn hsz hzn B; (try replace r1 := r1.of_eq (hcn.block _ r1.lt (by omega))); (try replace r0 := r0.of_eq (hcn.block _ r0.lt (by omega))); (try replace m7 := m7.of_eq (hcn.block _ m7.lt (by omega))); (try replace row := row.of_eq (hcn.block _ row.lt (by omega))); simp only [putS]) | (refine wpList_loadAny (t := 117) rfl _ rfl _ _ _ rfl (run_load_img m7) (by rfl) ?_; simp only [putS]) | (go_at_call 126; have hr0 := r0.lt; have hr1 := m7.lt; have hr2 := row.lt; have hsp := rs_sep HR0.out k0; have hsz := B.size; refine (P_mapped (imgF c) (fun s W => AtB 38 W b_r0 (rcA c) ∧ AtB 117 W b_m7 (imgC c (.slice (some ⟨b_row, 0, none⟩) (areaN c) (areaN c))) ∧ RowAt pxE W b_row s ∧ s.length = areaN c) b_row 127 #[.pointer (some ⟨b_r0, 0, none⟩), .pointer (some ⟨b_m7, 0, none⟩)] eg _ (fineL ls) (List.replicate (areaN c) Px.zero) _ (HT.out _ B).2 TK.out (by omega) HP.out hr2 hsp ⟨r0, m7, row, by simp⟩ (fun s W W' hI hk => ⟨hI.1.of_eq (hk _ hr0), hI.2.1.of_eq (hk _ hr1), hI.2.2.1.of_eq (hk _ hr2), hI.2.2.2⟩) (fun s W x y p _ hI h1 h2 h3 h4 hp => (P_Image1 c FT.out s hI.2.2.2 x y p b_r0 b_m7 b_row W hI.1 hI.2.1 hI.2.2.1 k1 k2).mono fun e W' hh => ⟨hh.1, ⟨hh.2.1.1, hh.2.1.2.1, hh.2.1.2.2, (imgF_len c s x y p).trans hI.2.2.2⟩, hh.2.2⟩) (imgF_ok c)).mono ?_; rintro e wn ⟨v1, rfl, _, hI, hcc⟩; have hzn := hcc.size; replace m4 := m4.of_eq (hcc.block _ m4.lt k3); replace B := Chg.below B hcc k0 hsz; obtain ⟨r0, m7, row, hlen⟩ := hI) | (go_at_call 104; refine (HT.out _ B).1.mono ?_; rintro e wn ⟨rfl, hbn⟩; have hsz := B.size; have hzn := hbn.size; replace B := B.trans (hbn.mono B.size); (try replace r1 := r1.below hbn); (try replace r0 := r0.below hbn); (try replace m4 := m4.below hbn); (try replace m7 := m7.below hbn); (try replace row := row.below hbn)) | (refine wpList_loadAny (t := 64) rfl _ rfl _ _ _ rfl (run_load_B r1 Tryz.isAgg64 (by kernel_rfl)) (by rfl) ?_; simp only [putS]) | fail)
  refine bodyPost_ret (results_B2 (t := 117) rfl _ _ (b_m4) rfl _ rfl m4 Tryz.isAgg117 (by kernel_rfl)) rfl ?_
  refine ⟨_, k0, rfl, ?_, B⟩
  rw [← HIM.out]
  exact row
/-! ### The row, half painted -/
def inkR (c : Rc) (F G : Int → Int → Px) (k : Nat) : List Px := (List.range (areaN c)).map fun j => if j < k then F (pxX c j) (pxY c j) else G (pxX c j) (pxY c j)
theorem inkR_len (c : Rc) (F G : Int → Int → Px) (k : Nat) : (inkR c F G k).length = areaN c := by unfold inkR; rw [List.length_map, List.length_range]
theorem inkR_zero (c : Rc) (ls : List TA) (F : Int → Int → Px) : inkR c F (fun x y => getL ls x y) 0 = imgL c ls := by
 unfold inkR imgL
 refine List.map_congr_left fun j _ => ?_
 rw [if_neg (by omega)]
theorem inkR_all (c : Rc) (F G : Int → Int → Px) : inkR c F G (areaN c) = paintL c F := by
 unfold inkR paintL
 refine List.map_congr_left fun j hj => ?_
 rw [if_pos (List.mem_range.1 hj)]
theorem inkR_at (c : Rc) (F G : Int → Int → Px) {k : Nat} (h : k < areaN c) : (inkR c F G k)[k]? = some (G (pxX c k) (pxY c k)) := by
 unfold inkR
 rw [List.getElem?_map, List.getElem?_range h]
 show some (if k < k then _ else _) = _
 rw [if_neg (by omega)]
theorem inkR_set (c : Rc) (F G : Int → Int → Px) {k : Nat} (h : k < areaN c) : (inkR c F G k).set k (F (pxX c k) (pxY c k)) = inkR c F G (k + 1) := by
 apply List.ext_getElem?
 intro j
 rw [List.getElem?_set]
 unfold inkR
 by_cases e : k = j
 ·subst e
  rw [if_pos rfl, if_pos (by rw [List.length_map, List.length_range]; exact h), List.getElem?_map, List.getElem?_range h]
  show _ = some (if k < k + 1 then _ else _)
  rw [if_pos (by omega)]
 ·rw [if_neg e]
  by_cases hj : j < areaN c
  ·rw [List.getElem?_map, List.getElem?_map, List.getElem?_range hj]
   show some (if j < k then _ else _) = some (if j < k + 1 then _ else _)
   by_cases hk : j < k
   ·rw [if_pos hk, if_pos (by omega)]
   ·rw [if_neg hk, if_neg (by omega)]
  ·rw [List.getElem?_eq_none (by rw [List.length_map, List.length_range]; omega), List.getElem?_eq_none (by rw [List.length_map, List.length_range]; omega)]
theorem inkR_same (c : Rc) (F G : Int → Int → Px) {k : Nat} (h : F (pxX c k) (pxY c k) = G (pxX c k) (pxY c k)) : inkR c F G (k + 1) = inkR c F G k := by
 unfold inkR
 refine List.map_congr_left fun j _ => ?_
 by_cases hk : j < k
 ·rw [if_pos hk, if_pos (by omega)]
 ·rw [if_neg hk]
  by_cases hj : j < k + 1
  ·rw [if_pos hj, show j = k by omega, h]
  ·rw [if_neg hj]
/-- The pixel at a row and a column. -/
theorem ink_step {c : Rc} (hf : Fits c) (F G : Int → Int → Px) {i j : Nat} (hj : (j : Int) < c.x1 - c.x0) (hi : (i : Int) < c.y1 - c.y0) : i * widN c + j < areaN c ∧ (inkR c F G (i * widN c + j))[i * widN c + j]? = some (G (c.x0 + j) (c.y0 + i)) ∧ (inkR c F G (i * widN c + j)).set (i * widN c + j) (F (c.x0 + j) (c.y0 + i)) = inkR c F G (i * widN c + (j + 1)) ∧ (F (c.x0 + j) (c.y0 + i) = G (c.x0 + j) (c.y0 + i) → inkR c F G (i * widN c + (j + 1)) = inkR c F G (i * widN c + j)) := by
 obtain ⟨k, e, hk, ex, ey⟩ := px_xy hf hj hi
 have hw : c.x1 - c.x0 = (widN c : Int) := by unfold widN; have := hf.h1; omega
 have ek : k = i * widN c + j := by
  rw [hw] at e
  omega
 subst ek
 have h1 := inkR_at c F G hk
 have h2 := inkR_set c F G hk
 have h3 := inkR_same c F G (k := i * widN c + j)
 rw [ex, ey] at h1 h2 h3
 rw [← Nat.add_assoc]
 exact ⟨hk, h1, h2, h3⟩
/-! ### The two closures -/
def chP (s : Stk) (p : Px) (n : Int) : Px := if s.era = true then fadeP p (255 - n) else overP p s.col 0 n
theorem inkP_ch (s : Stk) (n : Int) (p : Px) : inkP s n p = if 0 < n then chP s p n else p := rfl
theorem run_alloc_PxZ (w : World) (o : Oper) (ho : o.op = .alloc 28) (ev : Operand → Value) : (execOp ev o).run Tryz.prog w = .ok (.value (.pointer (some ⟨w.heap.size, 0, none⟩))) (w.alloc (.cells #[.int .u8 0, .int .u8 0, .int .u8 0, .int .u8 0] 28)) := by
 obtain ⟨d, p, t, ps, af, gd⟩ := o
 simp only at ho
 subst ho
 kernel_rfl
theorem P_FadeQ (q r : Px) (c : Int) (w : World) (hq : q.ok) (e : fadeP q c = r) : Calls Tryz.prog 75 #[.agg (pxE.enc q), .int .i64 c] w fun e w' => e = .returned (.agg (pxE.enc r)) ∧ Below w.heap.size w w' := e ▸ P_Fade q c w hq
theorem P_OverQ (q p r : Px) (m c : Int) (w : World) (hq : q.ok) (hp : p.ok) (e : overP q p m c = r) : Calls Tryz.prog 73 #[.agg (pxE.enc q), .agg (pxE.enc p), .int .i64 m, .int .i64 c] w fun e w' => e = .returned (.agg (pxE.enc r)) ∧ Below w.heap.size w w' := e ▸ P_Over q p m c w hq hp
theorem P_Paint1 (v : Value) (s : Stk) (p q : Px) (n : Int) (b : Nat) (w : World) (s2 : AtB 30 w b (stC v s)) (hp : p.ok) (hc : s.col.ok) (e : overP p s.col 0 n = q) : Calls Tryz.prog 72 #[.agg (pxE.enc p), .int .i64 n, .pointer (some ⟨b, 0, none⟩)] w fun e w' => e = .returned (.agg (pxE.enc q)) ∧ Below w.heap.size w w' := by
 have B := Below.refl w.heap.size w
 have HP := Lib.hid hp
 have HC := Lib.hid hc
 have HE := Lib.hid e
 clear hp hc e
 go_enter Tryz.func72, Tryz.ntmps72
 go_upto_region 0 with fail
 refine wp_region_lit ?_
 try simp only [gelS]
 (refine wpList_boxB (t := 28) rfl _ rfl _ rfl (alK B ?_); clear B; intro b_r3 wn hle hge r3 hbn hsz hln B; (try have hlt := s2.lt); (try replace s2 := s2.below (hbn.mono hle)); simp only [putS])
 (refine wpList_allocBk (t := 28) rfl _ (run_alloc_PxZ _ _ rfl) (alK B ?_); clear B; intro b_r5 wn hle hge r5 hbn hsz hln B; (try have hlt := r3.lt); (try replace r3 := r3.below (hbn.mono hle)); (try have hlt := s2.lt); (try replace s2 := s2.below (hbn.mono hle)); simp only [putS])
 refine wpList_nil ?_
 have k1 : b_r3 < b_r5 := by have := r3.lt; omega
 replace r3 : AtB 28 _ b_r3 (pxE.enc p) := r3
 go_upto_region 1 with fail
 refine wp_region_lit ?_
 try simp only [gelS]
 refine chq 4 ?_
 repeat (first | go_big_quiet_skip | (go_big_quiet_want; first | ((first | refine quiet_loadAny (t := 28) rfl _ _ _ rfl (fun w hw => stC_col (ov_B s2 w hw)) (by rfl) ?_ | refine qB ?_ | refine qC ?_); simp only [putS]; go_big_quiet_on) | (go_big_quiet_op; go_big_quiet_on)))
 refine wpQuiet_nil ?_
 refine clF (enters_of Tryz.func73 (by kernel_rfl) rfl) (c := P_OverQ p s.col q 0 n _ HP.out HC.out HE.out) (h := ?_)
 rintro e wn ⟨rfl, hbn⟩
 have hsz := B.size
 have hzn := hbn.size
 replace B := B.trans (hbn.mono B.size)
 (try replace r5 := r5.below hbn)
 refine ⟨_, rfl, ?_⟩
 simp only [putS]
 (refine wpList_storeB (t := 28) rfl _ _ rfl _ rfl _ rfl r5 (by kernel_rfl) rfl (by simp [pxE, pxA, Value.oneCell']) (stK B (by omega) ?_); clear r5 B; intro wn r5 hcn hsz hzn B; simp only [putS])
 refine wpList_nil ?_
 first | (refine bodyPost_ret (results_B (t := 28) rfl _ _ (b_r5) rfl r5 Tryz.isAgg28 (by kernel_rfl)) rfl ?_) | (go_step; refine bodyPost_ret (results_B (t := 28) rfl _ _ (b_r5) rfl r5 Tryz.isAgg28 (by kernel_rfl)) rfl ?_) | (go_step; go_step; refine bodyPost_ret (results_B (t := 28) rfl _ _ (b_r5) rfl r5 Tryz.isAgg28 (by kernel_rfl)) rfl ?_) | (go_step; go_step; go_step; refine bodyPost_ret (results_B (t := 28) rfl _ _ (b_r5) rfl r5 Tryz.isAgg28 (by kernel_rfl)) rfl ?_) | (go_step; go_step; go_step; go_step; refine bodyPost_ret (results_B (t := 28) rfl _ _ (b_r5) rfl r5 Tryz.isAgg28 (by kernel_rfl)) rfl ?_) | (go_step; go_step; go_step; go_step; go_step; refine bodyPost_ret (results_B (t := 28) rfl _ _ (b_r5) rfl r5 Tryz.isAgg28 (by kernel_rfl)) rfl ?_)
 exact ⟨rfl, B⟩
theorem P_Paint2 (p q : Px) (n : Int) (w : World) (hn : 0 ≤ n ∧ n ≤ 255) (hp : p.ok) (e : fadeP p (255 - n) = q) : Calls Tryz.prog 74 #[.agg (pxE.enc p), .int .i64 n] w fun e w' => e = .returned (.agg (pxE.enc q)) ∧ Below w.heap.size w w' := by
 have B := Below.refl w.heap.size w
 have HP := Lib.hid hp
 have HE := Lib.hid e
 clear hp e
 go_enter Tryz.func74, Tryz.ntmps74
 go_upto_region 0 with fail
 refine wp_region_lit ?_
 try simp only [gelS]
 (refine wpList_boxB (t := 28) rfl _ rfl _ rfl (alK B ?_); clear B; intro b_r2 wn hle hge r2 hbn hsz hln B; simp only [putS])
 (refine wpList_allocBk (t := 28) rfl _ (run_alloc_PxZ _ _ rfl) (alK B ?_); clear B; intro b_r4 wn hle hge r4 hbn hsz hln B; (try have hlt := r2.lt); (try replace r2 := r2.below (hbn.mono hle)); simp only [putS])
 refine wpList_nil ?_
 have k1 : b_r2 < b_r4 := by have := r2.lt; omega
 replace r2 : AtB 28 _ b_r2 (pxE.enc p) := r2
 go_upto_region 1 with fail
 refine wp_region_lit ?_
 try simp only [gelS]
 refine chk 3 ?_
 refine clF (enters_of Tryz.func75 (by kernel_rfl) rfl) (c := P_FadeQ p q (255 - n) _ HP.out HE.out) (h := ?_)
 rintro e wn ⟨rfl, hbn⟩
 have hsz := B.size
 have hzn := hbn.size
 replace B := B.trans (hbn.mono B.size)
 (try replace r4 := r4.below hbn)
 refine ⟨_, rfl, ?_⟩
 simp only [putS]
 (refine wpList_storeB (t := 28) rfl _ _ rfl _ rfl _ rfl r4 (by kernel_rfl) rfl (by simp [pxE, pxA, Value.oneCell']) (stK B (by omega) ?_); clear r4 B; intro wn r4 hcn hsz hzn B; simp only [putS])
 refine wpList_nil ?_
 first | (refine bodyPost_ret (results_B (t := 28) rfl _ _ (b_r4) rfl r4 Tryz.isAgg28 (by kernel_rfl)) rfl ?_) | (go_step; refine bodyPost_ret (results_B (t := 28) rfl _ _ (b_r4) rfl r4 Tryz.isAgg28 (by kernel_rfl)) rfl ?_) | (go_step; go_step; refine bodyPost_ret (results_B (t := 28) rfl _ _ (b_r4) rfl r4 Tryz.isAgg28 (by kernel_rfl)) rfl ?_) | (go_step; go_step; go_step; refine bodyPost_ret (results_B (t := 28) rfl _ _ (b_r4) rfl r4 Tryz.isAgg28 (by kernel_rfl)) rfl ?_) | (go_step; go_step; go_step; go_step; refine bodyPost_ret (results_B (t := 28) rfl _ _ (b_r4) rfl r4 Tryz.isAgg28 (by kernel_rfl)) rfl ?_) | (go_step; go_step; go_step; go_step; go_step; refine bodyPost_ret (results_B (t := 28) rfl _ _ (b_r4) rfl r4 Tryz.isAgg28 (by kernel_rfl)) rfl ?_)
 exact ⟨rfl, B⟩
end Go.Proofs.YtepelndbbhdofaaGreatDoor
/- Contract of Paint of package stroke. -/
namespace Go.Proofs.YtepelndbbhdofaaGreatDoor
open Go.RowKit Go.Shelf Pl
attribute [local go_sem] Oper.semAt_some
set_option linter.unusedVariables false
set_option linter.unusedSimpArgs false
set_option maxRecDepth 20000
section
variable {F : Fence} {n : Nat} {P : Program}
/-- As rangeFunc_O, where the body may return. -/
theorem rangeFunc_OX {α : Type} {g : Operand} {ps : Array Tmp} {assign body : Code} {Q : Exit → Act → World → Prop} {a : Act} {w : World}
  (hro : F.round = none) (h1 : 1 ≤ n) {gf : Nat} {lb : Array Value} (hg : a.eval g = .func (.func gf) #[] lb) (hFg : F.fn gf) (eg : ∀ args w, (callFunc gf args).run P w = .ok (.enter gf args) w)
  {encs : α → Array Value} {Kp : World → World → Prop} {S Sp : List α → Prop} {N : Nat} {w0 : World} (hseq : SeqStopsO F (n - 1) P gf lb encs Kp S Sp N w0)
  (hKt : ∀ {A B C : World}, Kp A B → Kp B C → Kp A C) (hKb : ∀ (W : World) (l : Nat) (o o' : Obj), w.heap.size ≤ l → W.heap[l]? = some o → o.isCells = false → o.isWalk = false → Kp W (W.putObj l o'))
  (hKg : ∀ (A B : World), Below A.heap.size A B → Kp A B) (hb0 : Below w0.heap.size w0 w) (hps : ∀ x, (encs x).size = ps.size)
  (I Ix : List α → World → Prop) (hI0 : OwnO w.heap.size I) (hX0 : OwnO w.heap.size Ix) (h0 : I [] w) (As : α → Act → World → Prop) (hAs : ∀ x, OwnFrom w.heap.size (As x))
  (hassign : ∀ (l : Nat) (pre : List α) (x : α) (W : World) (K : Act → World → Prop), I pre W → w.heap.size + 2 < W.heap.size → (∀ a' W', Below W.heap.size W W' → As x a' W' → K a' W') →
   assign.wpIn (F.inRound l) (n - 1 - 1) P (Exit.then K (fun _ _ _ => False)) { tmps := (ps.zip (encs x)).foldl (fun t (p, v) => t.setIfInBounds p v) a.tmps, defers := [] } W)
  (hbody : ∀ (l : Nat) (pre : List α) (x : α) (W : World) (a' : Act), I pre W → As x a' W → pre.length < N → body.wpIn (F.inRound l) (n - 1 - 1) P (ownPostK Kp I (fun c xs W => c = .ret ∧ Ix xs W) (pre ++ [x]) W) a' W)
  (hdone : ∀ (D : Nat) (xs : List α) (W : World), w.heap.size ≤ D → S xs → I xs W → W.heap[D]? = some (.deferred (some [])) → Q .normal { a with defers := { target := .collected D, args := #[] } :: a.defers } W)
  (hstop : ∀ (D : Nat) (pre : List α) (W : World), w.heap.size ≤ D → Sp pre → Ix pre W → W.heap[D]? = some (.deferred (some [])) → Q .ret { a with defers := { target := .collected D, args := #[] } :: a.defers } W) :
  (Code.rangeFunc g ps assign body).wpIn F n P Q a w := by
 have hI : OwnFrom w.heap.size I := hI0.from
 have hX : OwnFrom w.heap.size Ix := hX0.from
 refine wpIn_rangeFunc fun fn hfn => ?_
 rw [hro]
 obtain ⟨rc, hrc⟩ : ∃ rc : LoopState → Option Code → Loop, rc = fun st pe => { state := st, pending := pe, fn, tmps := a.tmps, params := ps, assign, body, defers := w.heap.size } := ⟨_, rfl⟩
 obtain ⟨W1, hW1⟩ : ∃ W1, (w.alloc (.deferred (some []))).alloc (.loop (rc .ready none)) = W1 := ⟨_, rfl⟩
 have blkL : W1.heap[w.heap.size + 1]? = some (.loop (rc .ready none)) := by
  have := World.alloc_heap_new (w.alloc (.deferred (some []))) (.loop (rc .ready none))
  rw [← hW1]
  rwa [World.size_alloc] at this
 have blkD : W1.heap[w.heap.size]? = some (.deferred (some [])) := by
  rw [← hW1]
  exact (Below.heap_alloc _ _ _ (by simp)).trans (World.alloc_heap_new w _)
 have grown : Below w0.heap.size w0 W1 := by
  rw [← hW1]
  exact hb0.trans ((((Below.refl _ w).alloc (Nat.le_refl _) _).alloc (by simp) _).mono hb0.size)
 have start : I [] W1 := by rw [← hW1]; exact hI.alloc _ (hI.alloc _ h0)
 refine ⟨w.heap.size + 1, [{ target := .collected w.heap.size, args := #[] }], W1, { target := .fn (.func gf) lb, args := #[.func (.yield (w.heap.size + 1)) #[] #[]] }, W1, gf,
  #[.func (.yield (w.heap.size + 1)) #[] #[]] ++ lb, W1, ?_, ?_, ?_, ?_, fun _ => h1, ?_⟩
 ·rw [← hW1, hrc]; exact run_enterLoop_outer _ _ _ _ _
 ·simp only [resolve, hg]
  simp [go_sem]
 ·intro f' hf'
  simp [Target.leads] at hf'
  subst hf'
  exact hFg
 ·simp [invoke, go_sem, eg]
 have hszW1 : W1.heap.size = w.heap.size + 2 := by rw [← hW1]; simp
 have book : ∀ (A B : World) (row : Option Nat) (c : Loop), A.grownBy B row → (∀ r, row = some r → StepO W1.heap.size A r) → A.heap[w.heap.size + 1]? = some (.loop c) → A.heap[w.heap.size]? = some (.deferred (some [])) → B.heap[w.heap.size + 1]? = some (.loop c) ∧ B.heap[w.heap.size]? = some (.deferred (some [])) := fun A B row c hg' hr h1 h2 =>
  ⟨(hg'.block _ (Array.getElem?_eq_some_iff.1 h1).1 (fun e => by have := (hr _ e.symm).1; omega)).trans h1, (hg'.block _ (Array.getElem?_eq_some_iff.1 h2).1 (fun e => by have := (hr _ e.symm).1; omega)).trans h2⟩
 have turn : ∀ (A : World) (row : Option Nat), (∀ r, row = some r → StepO W1.heap.size A r) → ∀ r, row = some r → w.heap.size ≤ r ∧ ((∃ o : Obj, A.heap[r]? = some o ∧ o.isCells = false) ∨ StepO (w.heap.size + 2) A r) := fun A row hr r e => ⟨by have := (hr r e).1; omega, .inr (by have := hr r e; rwa [hszW1] at this)⟩
 refine (hseq (w.heap.size + 1)
  (fun pre W => I pre W ∧ W.heap[w.heap.size + 1]? = some (.loop (rc .ready none)) ∧ W.heap[w.heap.size]? = some (.deferred (some [])))
  (fun pre W => Ix pre W ∧ W.heap[w.heap.size + 1]? = some (.loop (rc .done (some .ret))) ∧ W.heap[w.heap.size]? = some (.deferred (some []))) W1 grown
  (fun s A B row hs hg' hr => ⟨hI0 s A B row hs.1 hg' (turn A row hr), book A B row _ hg' hr hs.2.1 hs.2.2⟩)
  (fun s A B row hs hg' hr => ⟨hX0 s A B row hs.1 hg' (turn A row hr), book A B row _ hg' hr hs.2.1 hs.2.2⟩) ?_ ⟨start, blkL, blkD⟩).mono ?_
 ·rintro pre x W ⟨hi, hl, hk⟩ hlen hbig
  have hy := run_yield (P := P) (args := encs x) hl (by rw [hrc]; exact hps x)
  rw [hrc] at hy
  refine ⟨fn, _, assign, body, hy, roundIn_of_wpIn hfn (hassign _ pre x W _ hi (by rw [hszW1] at hbig; exact hbig) fun a' V hb ha => ?_)⟩
  have hlV : V.heap[w.heap.size + 1]? = some (.loop (rc .ready none)) := (hb.block _ (Array.getElem?_eq_some_iff.1 hl).1).trans hl
  have hkV : V.heap[w.heap.size]? = some (.deferred (some [])) := (hb.block _ (Array.getElem?_eq_some_iff.1 hk).1).trans hk
  have hiV : I pre V := hI pre W V none hi (grown_of_below hb) (fun r e => by cases e)
  refine ⟨_, run_beginRound hlV (by rw [hrc]), ?_⟩
  obtain ⟨V1, hV1⟩ : ∃ V1, V.putObj (w.heap.size + 1) (.loop { rc .ready none with state := .busy }) = V1 := ⟨_, rfl⟩
  have hl1 : V1.heap[w.heap.size + 1]? = some (.loop { rc .ready none with state := .busy }) := by rw [← hV1]; exact World.putObj_heap_same (Array.getElem?_eq_some_iff.1 hlV).1
  have hk1 : V1.heap[w.heap.size]? = some (.deferred (some [])) := by rw [← hV1]; exact (World.putObj_heap_other (by omega)).trans hkV
  have hKp1 : Kp W V1 := hKt (hKg _ _ hb) (by rw [← hV1]; exact hKb _ _ _ _ (by omega) hlV rfl rfl)
  have hi1 : I pre V1 := by rw [← hV1]; exact hI.putObj _ hiV (by omega) hlV rfl
  have ha1 : As x a' V1 := by rw [← hV1]; exact (hAs x).putObj _ ha (by omega) hlV rfl
  rw [hV1]
  refine wpIn_mono (hbody _ pre x V1 a' hi1 ha1 hlen) ?_
  rintro e a3 W3 hp
  cases e with
  | normal =>
   obtain ⟨ko, kp, hi3⟩ := hp
   have hl3 := ko.same _ _ hl1 rfl
   have hk3 := ko.same _ _ hk1 rfl
   have he := run_endRound (P := P) none hl3
   rw [hrc] at he
   refine ⟨_, _, he, .inl ⟨rfl, ⟨hI.putObj _ hi3 (by omega) hl3 rfl, ?_, (World.putObj_heap_other (by omega)).trans hk3⟩, hKt (hKt hKp1 kp) (hKb _ _ _ _ (by omega) hl3 rfl rfl)⟩⟩
   rw [World.putObj_heap_same (Array.getElem?_eq_some_iff.1 hl3).1, hrc]
   rfl
  | ret =>
   obtain ⟨ko, _, hi3⟩ := hp
   have hl3 := ko.same _ _ hl1 rfl
   have hk3 := ko.same _ _ hk1 rfl
   have he := run_endRound (P := P) (some .ret) hl3
   rw [hrc] at he
   refine ⟨_, _, he, .inr ⟨rfl, hX.putObj _ hi3 (by omega) hl3 rfl, ?_, (World.putObj_heap_other (by omega)).trans hk3⟩⟩
   rw [World.putObj_heap_same (Array.getElem?_eq_some_iff.1 hl3).1, hrc]
   rfl
  | exit id => cases hp.2.1
  | goto t => cases hp.2.1
  | panic ch => exact hp.elim
  | outgrown => exact hp.elim
 ·rintro e W2 ⟨⟨v, rfl⟩, ⟨xs, hS, hi, hl, hk⟩ | ⟨pre, hSp, hi, hl, hk⟩⟩
  ·have he := run_endLoop (P := P) hl (by rw [hrc]; simp)
   rw [hrc] at he
   exact ⟨none, _, he, hdone _ xs _ (Nat.le_refl _) hS (hI.putObj _ hi (by omega) hl rfl) ((World.putObj_heap_other (by omega)).trans hk)⟩
  ·have he := run_endLoop (P := P) hl (by rw [hrc]; simp)
   rw [hrc] at he
   exact ⟨some .ret, _, he, wpIn_ret (hstop _ pre _ (Nat.le_refl _) hSp (hX.putObj _ hi (by omega) hl rfl) ((World.putObj_heap_other (by omega)).trans hk))⟩
end
/-! ### Blocks of an error, of a function -/
theorem run_alloc_Er (w : World) (o : Oper) (ho : o.op = .alloc 53) (ev : Operand → Value) : (execOp ev o).run Tryz.prog w = .ok (.value (.pointer (some ⟨w.heap.size, 0, none⟩))) (w.alloc (.cells #[.int .i64 0] 53)) := by
 obtain ⟨d, p, t, ps, af, gd⟩ := o
 simp only at ho
 subst ho
 kernel_rfl
theorem run_alloc_Fu (w : World) (o : Oper) (ho : o.op = .alloc 114) (ev : Operand → Value) : (execOp ev o).run Tryz.prog w = .ok (.value (.pointer (some ⟨w.heap.size, 0, none⟩))) (w.alloc (.cells #[.nilFunc] 114)) := by
 obtain ⟨d, p, t, ps, af, gd⟩ := o
 simp only at ho
 subst ho
 kernel_rfl
theorem run_load_er {w : World} {b : Nat} {z : Int} (h : AtB 53 w b #[.int .i64 z]) : (Instr.loadAt 53 (.pointer (some ⟨b, 0, none⟩))).run Tryz.prog w = .ok (.int .i64 z) w := by
 have c0 := h.cell 0 rfl
 simp [go_sem, c0]
theorem run_load_fu {w : World} {b : Nat} {f : Fn} {x y : Array Value} (h : AtB 114 w b #[.func f x y]) : (Instr.loadAt 114 (.pointer (some ⟨b, 0, none⟩))).run Tryz.prog w = .ok (.func f x y) w := by
 have c0 := h.cell 0 rfl
 simp [go_sem, c0]
theorem wpList_stEr {ops : Array Oper} {rest : List Oper} {o : Oper} {a : Act} {w : World} {Q : Exit → Act → World → Prop} (hg : o.guard = none) (x y : Operand) (ho : o.op = .store 53 x y) (b : Nat) (hx : a.eval x = .pointer (some ⟨b, 0, none⟩)) (z : Int) (hy : a.eval y = .int .i64 z) {v : Value} (ht : AtB 53 w b #[v])
  (h : ∀ w', AtB 53 w' b #[.int .i64 z] → Chg b w w' → w'.heap.size = w.heap.size → wpList Tryz.prog ops Q rest (a.put o.dst undef) w') : wpList Tryz.prog ops Q (o :: rest) a w := by
 have c0 := ht.cell 0 rfl
 have f0 := ht.frozen 0
 refine wpList_storeAny hg x y ho (w.setCell ⟨b, 0, none⟩ (.int .i64 z)) ?_ (h _ ?_ ((Chg.refl b w).setCell _) (by simp only [World.size_setCell]))
 ·rw [hx, hy]
  simp [go_sem, c0, f0]
 ·exact heap_setCell_same w b 0 #[v] _ _ ht
theorem wpList_stFu {ops : Array Oper} {rest : List Oper} {o : Oper} {a : Act} {w : World} {Q : Exit → Act → World → Prop} (hg : o.guard = none) (x y : Operand) (ho : o.op = .store 114 x y) (b : Nat) (hx : a.eval x = .pointer (some ⟨b, 0, none⟩)) (f : Fn) (p q : Array Value) (hy : a.eval y = .func f p q) {v : Value} (ht : AtB 114 w b #[v])
  (h : ∀ w', AtB 114 w' b #[.func f p q] → Chg b w w' → w'.heap.size = w.heap.size → wpList Tryz.prog ops Q rest (a.put o.dst undef) w') : wpList Tryz.prog ops Q (o :: rest) a w := by
 have c0 := ht.cell 0 rfl
 have f0 := ht.frozen 0
 refine wpList_storeAny hg x y ho (w.setCell ⟨b, 0, none⟩ (.func f p q)) ?_ (h _ ?_ ((Chg.refl b w).setCell _) (by simp only [World.size_setCell]))
 ·rw [hx, hy]
  simp [go_sem, c0, f0]
 ·exact heap_setCell_same w b 0 #[v] _ _ ht
/-- An error stays. -/
theorem inkF_stop (s : Stk) (k : Nat) (ls : List TA) {E : Int} (h : (inkF s ((fpre (cntS s) k).map fun i => dabK s i.val) ls).2 = E) (hE : E ≠ 0) : inkF s (dabsF s) ls = ([], E) := by
 have e1 : dabsF s = ((fpre (cntS s) k).map fun i => dabK s i.val) ++ ((List.finRange (cntS s)).drop k).map fun i => dabK s i.val := by
  rw [← dabs_map, ← List.map_append]
  unfold fpre
  rw [List.take_append_drop]
 have e2 : inkF s (dabsF s) ls = inkF s ((fpre (cntS s) k).map fun i => dabK s i.val) ls := by
  rw [e1]
  unfold inkF at *
  rw [List.foldl_append]
  exact ink_err s _ (by rw [h]; exact hE)
 rw [e2]
 exact Prod.ext (inkF_errR s _ ls (by rw [h]; exact hE)) h
set_option maxHeartbeats 16000000 in
theorem P_Paint_ok (v vs : Value) (s : Stk) (ls : List TA) (w : World) (lm : LimAt w) (h : RS v ls w) (tk : TokL ls) (hn : ls.length ≤ maxLen) (rs : RSE spE vs s.pts w) (hv : validS s = true) (hcol : s.col.ok) : Calls Tryz.prog 30 #[.agg #[v], .agg (stC vs s)] w fun e w' => ∃ a cp, e = .returned (.tuple #[.agg #[.slice a (paintS s ls).1.length cp], .int .i64 (paintS s ls).2]) ∧ RS (.slice a (paintS s ls).1.length cp) (paintS s ls).1 w' ∧ Below w.heap.size w w' := by
 have B := Below.refl w.heap.size w
 have HV0 := Lib.hid hv
 have HVS := Lib.hid ((validS_iff s).1 hv)
 have HCOL := Lib.hid hcol
 have HFIN := Lib.hid (show paintS s ls = inkF s (dabsF s) (fineL ls) from if_pos hv)
 have hl1 := HVS.out.l1
 have hl2 := HVS.out.l2
 obtain ⟨ad, cd, rfl, hcd⟩ := rs.len
 obtain ⟨g, o, rfl, pc⟩ := rs.at (by omega)
 obtain ⟨a, c, rfl, hc⟩ := h.len
 have TK := Lib.hid tk
 have rs1 := h
 have hg0 := pc.lt
 have hlm0 := lm.lt
 clear hv hcol h tk
 refine (callsIn_wide (n := 3)).1 ?_
 refine callsIn_of_wp_marks Tryz.func30 rfl trivial ?_ rfl
 simp only [Tryz.ntmps30, List.size_toArray, List.length_cons, List.length_nil, Nat.reduceAdd, Nat.reduceSub, Array.replicate_succ, Array.replicate_zero, List.push_toArray, List.append_toArray, List.nil_append, List.cons_append]
 refine wpIn_wide.2 ?_
 go_upto_region 0 with fail
 refine wp_region_lit ?_
 try simp only [gelS]
 (refine wpList_boxB (t := 64) rfl _ rfl _ rfl (alK B ?_); clear B; intro b_r2 wn hle hge r2 hbn hsz hln B; (try have hlt := lm.lt); (try replace lm := lm.below (hbn.mono hle)); (try have hlt := rs1.lt); (try replace rs1 := rs1.below (hbn.mono hle)); (try have hlt := pc.lt); (try replace pc := pc.below (hbn.mono hle)); (try have hlt := rs.lt); (try replace rs := rs.below (hbn.mono hle)); simp only [putS])
 (refine wpList_boxB (t := 30) rfl _ rfl _ rfl (alK B ?_); clear B; intro b_r3 wn hle hge r3 hbn hsz hln B; (try have hlt := r2.lt); (try replace r2 := r2.below (hbn.mono hle)); (try have hlt := lm.lt); (try replace lm := lm.below (hbn.mono hle)); (try have hlt := rs1.lt); (try replace rs1 := rs1.below (hbn.mono hle)); (try have hlt := pc.lt); (try replace pc := pc.below (hbn.mono hle)); (try have hlt := rs.lt); (try replace rs := rs.below (hbn.mono hle)); simp only [putS])
 (refine wpList_allocBk (t := 64) rfl _ (run_alloc_R _ _ rfl) (alK B ?_); clear B; intro b_r4 wn hle hge r4 hbn hsz hln B; (try have hlt := r2.lt); (try replace r2 := r2.below (hbn.mono hle)); (try have hlt := r3.lt); (try replace r3 := r3.below (hbn.mono hle)); (try have hlt := lm.lt); (try replace lm := lm.below (hbn.mono hle)); (try have hlt := rs1.lt); (try replace rs1 := rs1.below (hbn.mono hle)); (try have hlt := pc.lt); (try replace pc := pc.below (hbn.mono hle)); (try have hlt := rs.lt); (try replace rs := rs.below (hbn.mono hle)); simp only [putS])
 (refine wpList_allocBk (t := 53) rfl _ (run_alloc_Er _ _ rfl) (alK B ?_); clear B; intro b_e5 wn hle hge e5 hbn hsz hln B; (try have hlt := r2.lt); (try replace r2 := r2.below (hbn.mono hle)); (try have hlt := r3.lt); (try replace r3 := r3.below (hbn.mono hle)); (try have hlt := r4.lt); (try replace r4 := r4.below (hbn.mono hle)); (try have hlt := lm.lt); (try replace lm := lm.below (hbn.mono hle)); (try have hlt := rs1.lt); (try replace rs1 := rs1.below (hbn.mono hle)); (try have hlt := pc.lt); (try replace pc := pc.below (hbn.mono hle)); (try have hlt := rs.lt); (try replace rs := rs.below (hbn.mono hle)); simp only [putS])
 refine wpList_nil ?_
 have k2 : w.heap.size ≤ b_r2 := by omega
 have k3 : b_r2 < b_r3 := by have := r2.lt; omega
 have k4 : b_r3 < b_r4 := by have := r3.lt; omega
 have k5 : b_r4 < b_e5 := by have := r4.lt; omega
 go_upto_region 1 with fail
 refine wp_region_lit ?_
 try simp only [gelS]
 refine chk 1 ?_
 refine clF (enters_of Tryz.func16 (by kernel_rfl) rfl) (c := P_Valid14 _ s true _ rs (by omega) HV0.out) (h := ?_)
 rintro e wn ⟨rfl, hbn⟩
 have hsz := B.size
 have hzn := hbn.size
 replace B := B.trans (hbn.mono B.size)
 (try replace r2 := r2.below hbn)
 (try replace r3 := r3.below hbn)
 (try replace r4 := r4.below hbn)
 (try replace e5 := e5.below hbn)
 (try replace lm := lm.below hbn)
 (try replace rs1 := rs1.below hbn)
 (try replace pc := pc.below hbn)
 (try replace rs := rs.below hbn)
 refine ⟨_, rfl, ?_⟩
 simp only [putS]
 refine chk 1 ?_
 refine wpList_nil ?_
 clear rs
 go_upto_region 3 with fail
 refine wp_region_lit ?_
 try simp only [gelS]
 (refine wpList_val rfl (.func (.func 72) #[] #[.pointer (some ⟨b_r3, 0, none⟩)]) (by first | rfl | simp [go_sem, Act.eval]) ?_; simp only [putS])
 (refine wpList_allocBk (t := 114) rfl _ (run_alloc_Fu _ _ rfl) (alK B ?_); clear B; intro b_f6 wn hle hge f6 hbn hsz hln B; (try have hlt := r2.lt); (try replace r2 := r2.below (hbn.mono hle)); (try have hlt := r3.lt); (try replace r3 := r3.below (hbn.mono hle)); (try have hlt := r4.lt); (try replace r4 := r4.below (hbn.mono hle)); (try have hlt := e5.lt); (try replace e5 := e5.below (hbn.mono hle)); (try have hlt := lm.lt); (try replace lm := lm.below (hbn.mono hle)); (try have hlt := rs1.lt); (try replace rs1 := rs1.below (hbn.mono hle)); (try have hlt := pc.lt); (try replace pc := pc.below (hbn.mono hle)); simp only [putS])
 (refine wpList_stFu rfl _ _ rfl _ rfl _ _ _ rfl f6 (stK B (by omega) ?_); have f6o := f6; clear f6 B; intro wn f6 hcn hsz hzn B; replace rs1 := rs1.chg f6o (by simp) hcn; (try replace r2 := r2.of_eq (hcn.block _ r2.lt (by omega))); (try replace r3 := r3.of_eq (hcn.block _ r3.lt (by omega))); (try replace r4 := r4.of_eq (hcn.block _ r4.lt (by omega))); (try replace e5 := e5.of_eq (hcn.block _ e5.lt (by omega))); (try replace lm := lm.of_eq (hcn.block _ lm.lt (by omega))); (try replace rs1 := rs1.of_eq (hcn.block _ rs1.lt (by omega))); (try replace pc := pc.of_eq (hcn.block _ pc.lt (by omega))); simp only [putS])
 refine wpList_nil ?_
 have k6 : b_e5 < b_f6 := by have := e5.lt; omega
 go_upto_region 4 with fail
 refine wp_region_lit ?_
 try simp only [gelS]
 refine chk 2 ?_
 refine wpList_nil ?_
 go_upto_if 23 with fail
 go_cut [] from 22 (fun wx => ∃ (gf : FuncId) (lb : Array Value), AtB 114 wx b_f6 #[.func (.func gf) #[] lb] ∧ Hid (Go.Proofs.Enters Tryz.prog gf) ∧ Hid (∀ (W : World) (p q : Px) (n : Int), AtB 30 W b_r3 (stC (.slice (some ⟨g, o, none⟩) s.pts.length cd) s) → p.ok → (0 ≤ n ∧ n ≤ 255) → chP s p n = q → Calls Tryz.prog gf (#[.agg (pxE.enc p), .int .i64 n] ++ lb) W fun e w' => e = .returned (.agg (pxE.enc q)) ∧ Below W.heap.size W w') ∧ Below w.heap.size w wx ∧ AtB 64 wx b_r2 #[.slice a ls.length c] ∧ RS (.slice a ls.length c) ls wx ∧ AtB 30 wx b_r3 (stC (.slice (some ⟨g, o, none⟩) s.pts.length cd) s) ∧ AtB 64 wx b_r4 #[.slice none 0 0] ∧ AtB 53 wx b_e5 #[.int .i64 0] ∧ LimAt wx ∧ RCellsE spE g o s.pts wx)
 case first =>
  cases hera : s.era with
  | true =>
   have HERA := Lib.hid hera
   clear hera
   go_upto_region 5 with fail
   refine wp_region_lit ?_
   try simp only [gelS]
   (refine wpList_stFu rfl _ _ rfl _ rfl _ _ _ rfl f6 (stK B (by omega) ?_); have f6o := f6; clear f6 B; intro wn f6 hcn hsz hzn B; replace rs1 := rs1.chg f6o (by simp) hcn; (try replace r2 := r2.of_eq (hcn.block _ r2.lt (by omega))); (try replace r3 := r3.of_eq (hcn.block _ r3.lt (by omega))); (try replace r4 := r4.of_eq (hcn.block _ r4.lt (by omega))); (try replace e5 := e5.of_eq (hcn.block _ e5.lt (by omega))); (try replace lm := lm.of_eq (hcn.block _ lm.lt (by omega))); (try replace rs1 := rs1.of_eq (hcn.block _ rs1.lt (by omega))); (try replace pc := pc.of_eq (hcn.block _ pc.lt (by omega))); simp only [putS])
   refine wpList_nil ?_
   go_wp2
   go_meet
   refine ⟨_, _, f6, Lib.hid (enters_of Tryz.func74 (by kernel_rfl) rfl), Lib.hid (fun W p q n h1 h2 h3 h4 => ?_), B, r2, rs1, r3, r4, e5, lm, pc⟩
   exact P_Paint2 p q n W h3 h2 (by rw [← h4]; unfold chP; rw [HERA.out]; rfl)
  | false =>
   have HERA := Lib.hid hera
   clear hera
   go_wp2
   go_meet
   refine ⟨_, _, f6, Lib.hid (enters_of Tryz.func72 (by kernel_rfl) rfl), Lib.hid (fun W p q n h1 h2 h3 h4 => ?_), B, r2, rs1, r3, r4, e5, lm, pc⟩
   exact P_Paint1 _ s p q n b_r3 W h1 h2 HCOL.out (by rw [← h4]; unfold chP; rw [HERA.out]; rfl)
 case rest =>
  clear B r2 rs1 r3 r4 e5 lm pc f6
  obtain ⟨gf, lb, f6, HEN, HCH, B, r2, rs1, r3, r4, e5, lm, pc⟩ := hcut
  obtain ⟨bv, hbv⟩ : ∃ b, validL ls = b := ⟨_, rfl⟩
  have HBV := Lib.hid hbv
  clear hbv
  go_upto_region 6 with fail
  refine wp_region_lit ?_
  try simp only [gelS]
  refine chk 1 ?_
  refine clF (enters_of Tryz.func41 (by kernel_rfl) rfl) (c := P_ValidB _ ls bv _ rs1 TK.out hn HBV.out) (h := ?_)
  rintro e wn ⟨rfl, hbn⟩
  have hsz := B.size
  have hzn := hbn.size
  replace B := B.trans (hbn.mono B.size)
  (try replace f6 := f6.below hbn)
  (try replace r2 := r2.below hbn)
  (try replace r3 := r3.below hbn)
  (try replace r4 := r4.below hbn)
  (try replace e5 := e5.below hbn)
  (try replace lm := lm.below hbn)
  (try replace rs1 := rs1.below hbn)
  (try replace pc := pc.below hbn)
  refine ⟨_, rfl, ?_⟩
  simp only [putS]
  refine chk 1 ?_
  refine wpList_nil ?_
  go_upto_if 26 with fail
  go_cut [] from 22 (fun wx => ∃ (a0 : Option Addr) (c0 : Nat), AtB 114 wx b_f6 #[.func (.func gf) #[] lb] ∧ Below w.heap.size w wx ∧ AtB 64 wx b_r2 #[.slice a0 (fineL ls).length c0] ∧ RS (.slice a0 (fineL ls).length c0) (fineL ls) wx ∧ AtB 30 wx b_r3 (stC (.slice (some ⟨g, o, none⟩) s.pts.length cd) s) ∧ AtB 64 wx b_r4 #[.slice none 0 0] ∧ AtB 53 wx b_e5 #[.int .i64 0] ∧ LimAt wx ∧ RCellsE spE g o s.pts wx)
  case first =>
   cases bv with
   | true =>
    go_wp2
    go_meet
    rw [fineL_of HBV.out]
    exact ⟨_, _, f6, B, r2, rs1, r3, r4, e5, lm, pc⟩
   | false =>
    go_upto_region 7 with fail
    refine wp_region_lit ?_
    try simp only [gelS]
    (refine wpList_val rfl (.agg #[.slice none 0 0]) (by kernel_rfl) ?_; simp only [putS])
    (refine wpList_storeB (t := 64) rfl _ _ rfl _ rfl _ rfl r2 (by kernel_rfl) rfl (by simp [Value.oneCell']) (stK B (by omega) ?_); clear r2 B; intro wn r2 hcn hsz hzn B; (try replace f6 := f6.of_eq (hcn.block _ f6.lt (by omega))); (try replace r3 := r3.of_eq (hcn.block _ r3.lt (by omega))); (try replace r4 := r4.of_eq (hcn.block _ r4.lt (by omega))); (try replace e5 := e5.of_eq (hcn.block _ e5.lt (by omega))); (try replace lm := lm.of_eq (hcn.block _ lm.lt (by omega))); (try replace pc := pc.of_eq (hcn.block _ pc.lt (by omega))); simp only [putS])
    refine wpList_nil ?_
    go_wp2
    go_meet
    have hfn : fineL ls = [] := by unfold fineL; rw [HBV.out]; rfl
    rw [hfn]
    exact ⟨_, _, f6, B, r2, RS.nil _, r3, r4, e5, lm, pc⟩
  case rest =>
   clear B r2 rs1 r3 r4 e5 lm pc f6 HBV
   obtain ⟨a0, c0, f6, B, r2, rs1, r3, r4, e5, lm, pc⟩ := hcut
   have VF := Lib.hid (fineL_valid ls)
   have TF := Lib.hid (fineL_tok TK.out)
   clear TK hn hc
   obtain ⟨L0, hL0⟩ : ∃ l, fineL ls = l := ⟨_, rfl⟩
   rw [hL0] at r2 rs1 VF TF HFIN
   clear hL0
   have l6 := f6.lt
   go_upto_region 8 with fail
   refine wp_region_lit ?_
   try simp only [gelS]
   refine chk 1 ?_
   refine clF (enters_of Tryz.func58 (by kernel_rfl) rfl) (c := P_walk _ s _) (h := ?_)
   rintro e wn ⟨bw, rfl, hbw, r9, hbn⟩
   have hsz := B.size
   have hzn := hbn.size
   replace B := B.trans (hbn.mono B.size)
   (try replace f6 := f6.below hbn)
   (try replace r2 := r2.below hbn)
   (try replace r3 := r3.below hbn)
   (try replace r4 := r4.below hbn)
   (try replace e5 := e5.below hbn)
   (try replace lm := lm.below hbn)
   (try replace rs1 := rs1.below hbn)
   (try replace pc := pc.below hbn)
   refine ⟨_, rfl, ?_⟩
   simp only [putS]
   refine wpList_nil ?_
   have k7 : b_f6 < bw := by omega
   have k8 := r9.lt
   obtain ⟨w1, hw1⟩ : ∃ w1, w1 = wn := ⟨_, rfl⟩
   rw [← hw1] at B r2 rs1 r3 r4 e5 lm pc f6 r9 k8 ⊢
   clear hw1
   have hszB := B.size
   go_wp2
   refine (wpIn_wide (n := 3)).1 ?_
   refine rangeFunc_OX (F := Fence.wide) rfl (by omega) (gf := 109) (lb := #[.pointer (some ⟨bw, 0, none⟩)]) rfl trivial (enters_of Tryz.func109 (by kernel_rfl) rfl) (walk_stops s HVS.out g o cd bw b_r2 w1.heap.size _ (by omega) _ r9 hcd pc (by omega) (by omega) (by omega) (by omega) (Nat.le_refl _)) (fun h k => KpW.trans h k) (fun W l o o' hl ho hc _ => KpW.putObj W l o o' hl ho hc) (fun A B h => KpW.below h) (Below.refl _ _) (fun _ => rfl)
    (fun pre W => ∃ (a1 : Option Addr) (c1 : Nat) (M : List TA), Hid (inkF s (pre.map (fun i => dabK s i.val)) L0 = (M, 0)) ∧ AtB 64 W b_r2 #[.slice a1 M.length c1] ∧ RS (.slice a1 M.length c1) M W ∧ AtB 30 W b_r3 (stC (.slice (some ⟨g, o, none⟩) s.pts.length cd) s) ∧ AtB 64 W b_r4 #[.slice none 0 0] ∧ AtB 53 W b_e5 #[.int .i64 0] ∧ AtB 114 W b_f6 #[.func (.func gf) #[] lb] ∧ LimAt W ∧ Below w.heap.size w W)
    (fun pre W => ∃ (E : Int), Hid ((inkF s (pre.map (fun i => dabK s i.val)) L0).2 = E ∧ E ≠ 0) ∧ AtB 64 W b_r4 #[.slice none 0 0] ∧ AtB 53 W b_e5 #[.int .i64 E] ∧ Below w.heap.size w W)
    (fun pre W W' row hI hg hr => ?own) (fun pre W W' row hI hg hr => ?ownX)
    ⟨a0, c0, L0, Lib.hid rfl, r2, rs1, r3, r4, e5, f6, lm, B⟩
    (fun x a' W => ∃ b7 : Nat, a'.defers = [] ∧ a'.tmps.size = 99 ∧ a'.tmps.getD 2 undef = .pointer (some ⟨b_r2, 0, none⟩) ∧ a'.tmps.getD 3 undef = .pointer (some ⟨b_r3, 0, none⟩) ∧ a'.tmps.getD 4 undef = .pointer (some ⟨b_r4, 0, none⟩) ∧ a'.tmps.getD 5 undef = .pointer (some ⟨b_e5, 0, none⟩) ∧ a'.tmps.getD 6 undef = .pointer (some ⟨b_f6, 0, none⟩) ∧ a'.tmps.getD 7 undef = .pointer (some ⟨b7, 0, none⟩) ∧ AtB 45 W b7 (dbE.enc (dabK s x.val)) ∧ b_f6 < b7)
    (fun x a' W W' row hA hg hr => ?own2) ?assign ?body ?done ?stop
   case own =>
    obtain ⟨a1, c1, M, h0, h1, h2, h3, h4, h5, h6, h7, h8⟩ := hI
    have hne : ∀ b, b < w1.heap.size → row ≠ some b := fun b hb e => by have := (hr _ e).1; omega
    refine ⟨a1, c1, M, h0, h1.grown hg (hne _ (by omega)), h2.own3 hg (fun r e => ?_), h3.grown hg (hne _ (by omega)), h4.grown hg (hne _ (by omega)), h5.grown hg (hne _ (by omega)), h6.grown hg (hne _ (by omega)), h7.of_eq (hg.block _ h7.lt (fun e => hne _ (by omega) e.symm)), below_own h8 h8.size hg (fun r e => Nat.le_trans hszB (hr r e).1)⟩
    rcases (hr r e).2 with h | ⟨_, h⟩
    ·exact .inl h
    ·exact .inr h
   case ownX =>
    obtain ⟨E, h0, h4, h5, h8⟩ := hI
    have hne : ∀ b, b < w1.heap.size → row ≠ some b := fun b hb e => by have := (hr _ e).1; omega
    exact ⟨E, h0, h4.grown hg (hne _ (by omega)), h5.grown hg (hne _ (by omega)), below_own h8 h8.size hg (fun r e => Nat.le_trans hszB (hr r e).1)⟩
   case own2 =>
    obtain ⟨b7, e1, e2, e3, e4, e5', e6, e7, e8, h1, h2⟩ := hA
    exact ⟨b7, e1, e2, e3, e4, e5', e6, e7, e8, h1.own hg (fun r e => (hr r e).2), h2⟩
   case assign =>
    intro l pre x W K ⟨_, _, _, _, _, _, _, _, _, hl6, _⟩ hbig hK
    have B := Below.refl W.heap.size W
    have hl := hl6.lt
    obtain ⟨D, hD⟩ : ∃ p, dabK s x.val = p := ⟨_, rfl⟩
    rw [hD] at hK
    rw [hD]
    dsimp only
    refine zip1_wp ?_
    simp only [List.setIfInBounds_toArray, List.set_cons_succ, List.set_cons_zero]
    refine round_lit (by kernel_rfl) ?_
    try simp only [gelS]
    (refine wpList_allocBk (t := 45) rfl _ (run_alloc_Db _ _ rfl) (alK B ?_); clear B; intro b_d7 wn hle hge d7 hbn hsz hln B; simp only [putS])
    (refine wpList_storeB (t := 45) rfl _ _ rfl _ rfl _ rfl d7 (by kernel_rfl) rfl (by simp [dbE, Value.oneCell']) (stK B (by omega) ?_); clear d7 B; intro wn d7 hcn hsz hzn B; simp only [putS])
    refine wpList_nil ?_
    refine Only.at ?_
    refine hK _ _ B ⟨_, rfl, rfl, rfl, rfl, rfl, rfl, rfl, rfl, d7, by omega⟩
   case stop =>
    rintro D pre W hD ⟨k, rfl⟩ ⟨E, HE, r4, e5, BW⟩ hDD
    have kd : DefAt W D := hDD
    have hE := inkF_stop s k L0 HE.out.1 HE.out.2
    rw [← HFIN.out] at hE
    have HEQ := Lib.hid hE
    clear hE
    have BF := BW.trans (belowK_b (w := w) (Nat.le_refl _) W D _ (.deferred none) (by omega) kd rfl rfl)
    refine ⟨by simp, .inl ⟨_, _, rfl, run_takeDeferred kd, ?_⟩⟩
    refine ⟨_, results_BI (t := 64) (u := 53) rfl _ _ b_r4 b_e5 rfl rfl ((World.putObj_heap_other (fun e => kd.ne r4 (by omega))).trans r4) (run_load_er ((World.putObj_heap_other (fun e => kd.ne e5 (by omega))).trans e5)) Tryz.isAgg64 (by kernel_rfl), ?_⟩
    rw [HEQ.out]
    exact ⟨none, 0, rfl, RS.nil _, BF⟩
   case done =>
    rintro D xs W hD rfl ⟨a1, c1, M, HM, r2, rs1, r3, r4, e5, f6, lm, BW⟩ hDD
    have kd : DefAt W D := hDD
    have hM := HM.out
    rw [dabs_map] at hM
    have hval := (inkF_valid HCOL.out (dabsF s) VF.out TF.out).1
    rw [hM] at hval
    rw [← HFIN.out] at hM
    have hMn := (validL_iff.1 hval).1
    dsimp only at hMn
    have HEQ := Lib.hid hM
    have B := BW
    have hwD : w.heap.size ≤ D := by omega
    have hne := kd.ne r4
    have hne5 := kd.ne e5
    clear BW r3 f6 lm hD hval hM
    go_upto_region 28 with fail
    refine wp_region_lit ?_
    try simp only [gelS]
    refine chk 2 ?_
    refine clF (enters_of Tryz.func78 (by kernel_rfl) rfl) (c := P_CloneO _ M _ rs1 (by omega)) (h := ?_)
    rintro e wn ⟨v2, b2, rfl, _, _, od2, hbn⟩
    have hsz := B.size
    have hzn := hbn.size
    replace B := B.trans (hbn.mono B.size)
    (try replace r2 := r2.below hbn)
    (try replace r4 := r4.below hbn)
    (try replace e5 := e5.below hbn)
    (try replace kd := kd.below hbn)
    have rs2 := od2.rs
    clear od2
    obtain ⟨a2, c2, rfl, hc2⟩ := rs2.len
    refine ⟨_, rfl, ?_⟩
    simp only [putS]
    refine chk 1 ?_
    (refine wpList_storeB (t := 64) rfl _ _ rfl _ rfl _ rfl r4 (by kernel_rfl) rfl (by simp [Value.oneCell']) (stK B (by omega) ?_); have r4o := r4; clear r4 B; intro wn r4 hcn hsz hzn B; (try replace rs2 := rs2.chg r4o (by simp) hcn); (try replace r2 := r2.of_eq (hcn.block _ r2.lt (by omega))); (try replace e5 := e5.of_eq (hcn.block _ e5.lt (by omega))); (try replace kd := kd.of_eq (hcn.block _ kd.lt (by omega))); simp only [putS])
    (refine wpList_stEr rfl _ _ rfl _ rfl _ rfl e5 (stK B (by omega) ?_); have e5o := e5; clear e5 B; intro wn e5 hcn hsz hzn B; replace rs2 := rs2.chg e5o (by simp) hcn; (try replace r2 := r2.of_eq (hcn.block _ r2.lt (by omega))); (try replace r4 := r4.of_eq (hcn.block _ r4.lt (by omega))); (try replace kd := kd.of_eq (hcn.block _ kd.lt (by omega))); simp only [putS])
    refine wpList_nil ?_
    go_wp2
    refine ⟨by simp, .inl ⟨_, _, rfl, run_takeDeferred kd, ?_⟩⟩
    refine ⟨_, results_BI (t := 64) (u := 53) rfl _ _ b_r4 b_e5 rfl rfl ((World.putObj_heap_other (fun e => hne (by omega))).trans r4) (run_load_er ((World.putObj_heap_other (fun e => hne5 (by omega))).trans e5)) Tryz.isAgg64 (by kernel_rfl), ?_⟩
    have BF := B.trans (belowK_b (w := w) (Nat.le_refl _) wn D _ (.deferred none) hwD kd rfl rfl)
    rw [HEQ.out]
    exact ⟨_, _, rfl, rs2.own (grownBy_putObj' _ _ _) (fun r e => by cases e; exact ⟨_, kd, rfl⟩), BF⟩
   case body =>
    rintro l pre x W ⟨tm, df⟩ ⟨a1, c1, M, HM, r2, rs1, r3, r4, e5, f6, lm, BW⟩ ⟨b7, e1, e2, e3, e4, e5', e6, e7, e8, p7, k10⟩ hpre
    obtain ⟨U, hU, hUi⟩ := arr_fn tm 99 e2
    dsimp only at e3 e4 e5' e6 e7 e8
    rw [← hUi] at e3 e4 e5' e6 e7 e8
    have eL : ((List.range 99).map U).toArray = #[U 0, U 1, U 2, U 3, U 4, U 5, U 6, U 7, U 8, U 9, U 10, U 11, U 12, U 13, U 14, U 15, U 16, U 17, U 18, U 19, U 20, U 21, U 22, U 23, U 24, U 25, U 26, U 27, U 28, U 29, U 30, U 31, U 32, U 33, U 34, U 35, U 36, U 37, U 38, U 39, U 40, U 41, U 42, U 43, U 44, U 45, U 46, U 47, U 48, U 49, U 50, U 51, U 52, U 53, U 54, U 55, U 56, U 57, U 58, U 59, U 60, U 61, U 62, U 63, U 64, U 65, U 66, U 67, U 68, U 69, U 70, U 71, U 72, U 73, U 74, U 75, U 76, U 77, U 78, U 79, U 80, U 81, U 82, U 83, U 84, U 85, U 86, U 87, U 88, U 89, U 90, U 91, U 92, U 93, U 94, U 95, U 96, U 97, U 98] := rfl
    rw [eL] at hU
    rw [e3, e4, e5', e6, e7, e8] at hU
    subst hU
    have e1 : df = [] := e1
    subst e1
    clear e2 e3 e4 e5' e6 e7 e8 hUi eL
    have hval := inkF_valid HCOL.out (pre.map (fun i => dabK s i.val)) VF.out TF.out
    have HST0 : inkF s ((pre ++ [x]).map (fun i => dabK s i.val)) L0 = inkD s (M, 0) (dabK s x.val) := by
     rw [List.map_append]
     show inkF s (pre.map (fun i => dabK s i.val) ++ [dabK s x.val]) L0 = _
     rw [inkF_snoc, HM.out]
    rw [HM.out] at hval
    have VM := Lib.hid hval.1
    have TM := Lib.hid hval.2
    have hMn := (validL_iff.1 hval.1).1
    dsimp only at hMn
    have OKD := Lib.hid (dabK_ok HVS.out x.isLt)
    generalize hD : dabK s x.val = D at *
    obtain ⟨o1, o2, o3, o4, o5, o6⟩ := OKD.out
    have HST := Lib.hid HST0
    clear hD HST0 hval HM
    obtain ⟨qs, hqs⟩ : ∃ q, sqrD D = q := ⟨_, rfl⟩
    obtain ⟨c, hcc⟩ : ∃ q, sqC D = q := ⟨_, rfl⟩
    have HQS := Lib.hid hqs
    have HC0 := Lib.hid hcc
    have HC := Lib.hid (show interR qs limC = c from by rw [← hqs, ← hcc]; rfl)
    clear hqs hcc
    have R2W := Lib.hid r2
    have RS1W := Lib.hid rs1
    have R4W := Lib.hid r4
    have E5W := Lib.hid e5
    have LMW := Lib.hid lm
    have BWW := Lib.hid BW
    have hws := BW.size
    have l2 := r2.lt
    have l3 := r3.lt
    have l4 := r4.lt
    have l5 := e5.lt
    have l6 := f6.lt
    have l7 := p7.lt
    have l0 := lm.lt
    have B := Below.refl W.heap.size W
    clear rs1 r4 e5 BW
    gi_upto_region 10 with fail
    try simp only [gelS]
    try have lx_r2 := r2.lt
    try have lx_r3 := r3.lt
    try have lx_f6 := f6.lt
    try have lx_lm := lm.lt
    try have lx_p7 := p7.lt
    refine round_RL (by kernel_rfl) 5 [(1, detS ?v1_1), (3, detS ?v1_3), (4, ptrS (W.heap.size) 38 #[.int .i64 0, .int .i64 0, .int .i64 0, .int .i64 0])] (by kernel_rfl) (by kernel_rfl) (by kernel_rfl) ?_
    rotate_left 2
    simp only [takS, Nat.reduceAdd]
    refine crk 1 ?_
    refine wpRL_callB (by rfl) (by first | rfl | simp [Region.wanted, yielded]) ?_ ?_
    ·intro wn hbn hE Kx hKx
     have hsz := B.size
     have hzn := hbn.size
     replace B := B.trans (hbn.mono B.size)
     (try replace r2 := r2.below hbn)
     (try replace r3 := r3.below hbn)
     (try replace f6 := f6.below hbn)
     (try replace lm := lm.below hbn)
     (try replace p7 := p7.below hbn)
     refine wp_callF rfl (enters_of Tryz.func62 (by kernel_rfl) rfl) (by simp only [Act.eval, evlS]; rfl) ?_
     refine (P_square D qs wn (by omega) (by omega) (by omega) HQS.out).mono ?_
     rintro e wm ⟨rfl, hbm⟩
     refine ⟨_, rfl, ?_⟩
     have hz := hKx () wm trivial hbm
     dsimp only [detS] at hz
     exact hz
    rintro ⟨⟩
    dsimp only [detS]
    simp only [putS]
    refine crq 1 ?_
    repeat (first | go_big_quiet_skip | (go_big_quiet_want; first | ((first | refine quiet_loadAny (t := 38) rfl _ _ _ rfl (fun w hw => run_load_lim (ov_lim lm w hw)) (by first | rfl | omega) ?_ | refine qB ?_ | refine qC ?_); simp only [putS]; go_big_quiet_on) | (go_big_quiet_op; go_big_quiet_on)))
    refine wpQuiet_nil ?_
    refine wpRL_callB (by rfl) (by first | rfl | simp [Region.wanted, yielded]) ?_ ?_
    ·intro wn hbn hE Kx hKx
     have hsz := B.size
     have hzn := hbn.size
     replace B := B.trans (hbn.mono B.size)
     (try replace r2 := r2.below hbn)
     (try replace r3 := r3.below hbn)
     (try replace f6 := f6.below hbn)
     (try replace lm := lm.below hbn)
     (try replace p7 := p7.below hbn)
     refine wp_callF rfl (enters_of Tryz.func46 (by kernel_rfl) rfl) (by simp only [Act.eval, evlS]; rfl) ?_
     refine (P_InterO qs limC c wn HC.out).mono ?_
     rintro e wm ⟨rfl, hbm⟩
     refine ⟨_, rfl, ?_⟩
     have hz := hKx () wm trivial hbm
     dsimp only [detS] at hz
     exact hz
    rintro ⟨⟩
    dsimp only [detS]
    simp only [putS]
    refine wpRL_callB (by rfl) (by first | rfl | simp [Region.wanted, yielded]) ?_ ?_
    ·intro wn hbn hE Kx hKx
     have hsz := B.size
     have hzn := hbn.size
     replace B := B.trans (hbn.mono B.size)
     (try replace r2 := r2.below hbn)
     (try replace r3 := r3.below hbn)
     (try replace f6 := f6.below hbn)
     (try replace lm := lm.below hbn)
     (try replace p7 := p7.below hbn)
     refine owp_allocBk (t := 38) _ (run_alloc_Rc _ _ rfl) ?_
     intro b wm h1 h2 ht hbm hzm
     exact hKx b wm ⟨Nat.le_trans hbn.size h1, ht⟩ (hbm.mono h1)
    rintro b_c8
    dsimp only [detS, ptrS]
    simp only [putS]
    refine wpRL_nil ?_
    intro wn hbn hE
    have hsz := B.size
    have hzn := hbn.size
    replace B := B.trans (hbn.mono B.size)
    (try replace r2 := r2.below hbn)
    (try replace r3 := r3.below hbn)
    (try replace f6 := f6.below hbn)
    (try replace lm := lm.below hbn)
    (try replace p7 := p7.below hbn)
    obtain ⟨hge_c8, c8⟩ : _ ∧ AtB _ _ _ _ := hE 4
    clear hE
    try simp only [List.drop_succ_cons, List.drop_zero]
    (refine wpList_storeB (t := 38) rfl _ _ rfl _ rfl _ rfl c8 (by kernel_rfl) rfl (by simp [rcA, Value.oneCell']) (stK B (by omega) ?_); clear c8 B; intro wn c8 hcn hsz hzn B; (try replace r2 := r2.of_eq (hcn.block _ r2.lt (by omega))); (try replace r3 := r3.of_eq (hcn.block _ r3.lt (by omega))); (try replace f6 := f6.of_eq (hcn.block _ f6.lt (by omega))); (try replace lm := lm.of_eq (hcn.block _ lm.lt (by omega))); (try replace p7 := p7.of_eq (hcn.block _ p7.lt (by omega))); simp only [putS])
    refine wpList_nil ?_
    refine NoPan.normal ?_
    refine Only.at ?_
    try dsimp only
    replace c8 : AtB 38 _ b_c8 (rcA c) := c8
    have k11 : W.heap.size ≤ b_c8 := by omega
    by_cases hr1 : D.r < 1
    ·have q1 : decide (D.r < 1) = true := decide_eq_true hr1
     gi_upto_region 11 with fail
     refine round_lit (by kernel_rfl) ?_
     try simp only [gelS]
     refine chk 5 ?_
     refine wpList_skip ?hs11_5 ?_
     case hs11_5 => kernel_rfl
     simp only [putS]
     refine chk 1 ?_
     refine wpList_nil ?_
     refine Only.at ?_
     try dsimp only
     gi_wp2
     refine ⟨KeepsOthers.below B, KpW.below B, a1, c1, M, Lib.hid ?_, r2, RS1W.out.below B, r3, R4W.out.of_eq (B.block _ l4), E5W.out.of_eq (B.block _ l5), f6, lm, BWW.out.trans (B.mono hws)⟩
     rw [HST.out]
     exact inkD_skip s _ (by unfold skD; rw [q1]; rfl)
    ·have q1 : decide (D.r < 1) = false := decide_eq_false hr1
     cases hem : emptyR c with
     | true =>
      have HEM := Lib.hid hem
      clear hem
      gi_upto_region 11 with fail
      refine round_lit (by kernel_rfl) ?_
      try simp only [gelS]
      refine chk 5 ?_
      refine clF (enters_of Tryz.func45 (by kernel_rfl) rfl) (c := P_EmptyB c true _ HEM.out) (h := ?_)
      rintro e wn ⟨rfl, hbn⟩
      have hsz := B.size
      have hzn := hbn.size
      replace B := B.trans (hbn.mono B.size)
      (try replace r2 := r2.below hbn)
      (try replace r3 := r3.below hbn)
      (try replace f6 := f6.below hbn)
      (try replace lm := lm.below hbn)
      (try replace p7 := p7.below hbn)
      (try replace c8 := c8.below hbn)
      refine ⟨_, rfl, ?_⟩
      simp only [putS]
      refine chk 1 ?_
      refine wpList_nil ?_
      refine Only.at ?_
      try dsimp only
      gi_wp2
      refine ⟨KeepsOthers.below B, KpW.below B, a1, c1, M, Lib.hid ?_, r2, RS1W.out.below B, r3, R4W.out.of_eq (B.block _ l4), E5W.out.of_eq (B.block _ l5), f6, lm, BWW.out.trans (B.mono hws)⟩
      rw [HST.out]
      exact inkD_skip s _ (by unfold skD; rw [HC0.out, HEM.out]; simp)
     | false =>
      have HSK : skD D = false := by unfold skD; rw [HC0.out, hem, q1]; rfl
      have HEM := Lib.hid hem
      clear hem
      obtain ⟨HE1, HF1⟩ := sq_fits OKD.out HSK
      rw [HC0.out] at HE1 HF1
      have HST2 : inkF s ((pre ++ [x]).map (fun i => dabK s i.val)) L0 = (pstR c (inkL s D M) M, pstE c (inkL s D M) M) := by rw [HST.out, inkD_go s HSK, HC0.out]
      have HIL : inkL s D M = paintL c (fun x y => inkP s (covD D x y) (getL M x y)) := by unfold inkL; rw [HC0.out]
      have okI : OkL (inkL s D M) := inkL_ok HCOL.out D TM.out
      have hIn : (inkL s D M).length = areaN c := by rw [inkL_len, HC0.out]
      have HE0 := Lib.hid HE1
      have HFit := Lib.hid HF1
      have HA := Lib.hid (area_bd HF1)
      have HAW := Lib.hid (area_wid HF1).1
      obtain ⟨f1, f2, f3, f4, f5, f6', f7, f8⟩ := HF1
      have hwid : (widN c : Int) = c.x1 - c.x0 := by unfold widN; omega
      obtain ⟨Wd, hWd⟩ : ∃ n, widN c = n := ⟨_, rfl⟩
      rw [hWd] at hwid
      have HWD := Lib.hid hWd
      clear hWd HE1
      obtain ⟨I, hI⟩ : ∃ l, inkL s D M = l := ⟨_, rfl⟩
      rw [hI] at HST2 HIL okI hIn
      have HS2 := Lib.hid HST2
      have HI := Lib.hid HIL
      have OKI := Lib.hid okI
      clear HST2 HIL okI hI HSK HST
      obtain ⟨R', hR'⟩ : ∃ l, pstR c I M = l := ⟨_, rfl⟩
      obtain ⟨E, hE⟩ : ∃ e, pstE c I M = e := ⟨_, rfl⟩
      have HR' := Lib.hid hR'
      have HEe := Lib.hid hE
      clear hR' hE
      gi_upto_region 11 with fail
      refine round_lit (by kernel_rfl) ?_
      try simp only [gelS]
      refine chk 5 ?_
      refine clF (enters_of Tryz.func45 (by kernel_rfl) rfl) (c := P_EmptyB c false _ HEM.out) (h := ?_)
      rintro e wn ⟨rfl, hbn⟩
      have hsz := B.size
      have hzn := hbn.size
      replace B := B.trans (hbn.mono B.size)
      (try replace r2 := r2.below hbn)
      (try replace r3 := r3.below hbn)
      (try replace f6 := f6.below hbn)
      (try replace lm := lm.below hbn)
      (try replace p7 := p7.below hbn)
      (try replace c8 := c8.below hbn)
      refine ⟨_, rfl, ?_⟩
      simp only [putS]
      refine chk 1 ?_
      refine wpList_nil ?_
      refine Only.at ?_
      try dsimp only
      have rs1 := RS1W.out.below B
      have hc8 := c8.lt
      have hszW := B.size
      gi_upto_region 12 with fail
      refine round_lit (by kernel_rfl) ?_
      try simp only [gelS]
      refine chk 2 ?_
      refine clF (enters_of Tryz.func76 (by kernel_rfl) rfl) (c := P_Image_own _ M c _ rs1 TM.out VM.out HE0.out) (h := ?_)
      rintro e wn ⟨cb, hcb, rfl, row, hbn⟩
      have hsz := B.size
      have hzn := hbn.size
      replace B := B.trans (hbn.mono B.size)
      (try replace r2 := r2.below hbn)
      (try replace r3 := r3.below hbn)
      (try replace f6 := f6.below hbn)
      (try replace lm := lm.below hbn)
      (try replace p7 := p7.below hbn)
      (try replace c8 := c8.below hbn)
      (try replace row := row.below hbn)
      have kcb : W.heap.size ≤ cb := by omega
      have kc8 : @LT.lt Nat _ b_c8 cb := by omega
      clear rs1
      refine ⟨_, rfl, ?_⟩
      simp only [putS]
      refine chk 3 ?_
      (have _ := row.lt; refine wpList_allocBk (t := 117) rfl _ (run_alloc_Im _ _ rfl) (alK B ?_); clear B; intro b_i9 wn hle hge i9 hbn hsz hln B; (try have hlt := r2.lt); (try replace r2 := r2.below (hbn.mono hle)); (try have hlt := r3.lt); (try replace r3 := r3.below (hbn.mono hle)); (try have hlt := f6.lt); (try replace f6 := f6.below (hbn.mono hle)); (try have hlt := lm.lt); (try replace lm := lm.below (hbn.mono hle)); (try have hlt := p7.lt); (try replace p7 := p7.below (hbn.mono hle)); (try have hlt := c8.lt); (try replace c8 := c8.below (hbn.mono hle)); (try have hlt := row.lt); (try replace row := row.below (hbn.mono hle)); simp only [putS])
      (refine wpList_storeB (t := 117) rfl _ _ rfl _ rfl _ rfl i9 (by kernel_rfl) rfl (by simp [imgC, Value.oneCell']) (stK B (by omega) ?_); clear i9 B; intro wn i9 hcn hsz hzn B; (try replace r2 := r2.of_eq (hcn.block _ r2.lt (by omega))); (try replace r3 := r3.of_eq (hcn.block _ r3.lt (by omega))); (try replace f6 := f6.of_eq (hcn.block _ f6.lt (by omega))); (try replace lm := lm.of_eq (hcn.block _ lm.lt (by omega))); (try replace p7 := p7.of_eq (hcn.block _ p7.lt (by omega))); (try replace c8 := c8.of_eq (hcn.block _ c8.lt (by omega))); (try replace row := row.of_eq (hcn.block _ row.lt (by omega))); simp only [putS])
      refine chk 1 ?_
      refine wpList_nil ?_
      refine Only.at ?_
      try dsimp only
      replace i9 : AtB 117 _ b_i9 (imgC c (.slice (some ⟨cb, 0, none⟩) (areaN c) (areaN c))) := i9
      have kci : b_i9 ≠ cb := by omega
      clear lm r2
      gi_upto_region 13 with fail
      refine round_lit (by kernel_rfl) ?_
      try simp only [gelS]
      refine chk 1 ?_
      refine wpList_nil ?_
      refine Only.at ?_
      try dsimp only
      gi_upto_region 14 with fail
      refine round_lit (by kernel_rfl) ?_
      try simp only [gelS]
      refine chk 3 ?_
      refine wpList_nil ?_
      refine Only.at ?_
      try dsimp only
      gi_wp2
      gi_loopw [11, 12, 13, 14] (fun kv yv _ _ wr => ∃ (i k : Nat) (R : List Px), (i : Int) ≤ c.y1 - c.y0 ∧ Hid (k = i * Wd) ∧ kv = .int .i64 (k : Int) ∧ yv = .int .i64 (c.y0 + (i : Int)) ∧ Hid (inkR c (fun x y => inkP s (covD D x y) (getL M x y)) (fun x y => getL M x y) k = R) ∧ Below W.heap.size W wr ∧ AtB 45 wr b7 (dbE.enc D) ∧ AtB 38 wr b_c8 (rcA c) ∧ AtB 117 wr b_i9 (imgC c (.slice (some ⟨cb, 0, none⟩) (areaN c) (areaN c))) ∧ AtB 114 wr b_f6 #[.func (.func gf) #[] lb] ∧ AtB 30 wr b_r3 (stC (.slice (some ⟨g, o, none⟩) s.pts.length cd) s) ∧ RowAt pxE wr cb R) (fun _ yv _ _ _ => (c.y1 - intOf yv).toNat)
      case atStart => exact ⟨0, 0, _, by omega, Lib.hid (by rw [Nat.zero_mul]), rfl, by rw [Int.natCast_zero, Int.add_zero], Lib.hid (inkR_zero c M _), B, p7, c8, i9, f6, r3, row⟩
      case round =>
       clear B p7 c8 i9 f6 r3 row
       obtain ⟨i, k, R, hi, HK, rfl, rfl, HR, B, p7, c8, i9, f6, r3, row⟩ := hrel
       by_cases hi1 : (i : Int) < c.y1 - c.y0
       ·have q2 : decide (c.y0 + (i : Int) < c.y1) = true := decide_eq_true (by omega)
        gi_upto_region 15 with fail
        refine round_lit (by kernel_rfl) ?_
        try simp only [gelS]
        refine chk 4 ?_
        refine wpList_nil ?_
        refine Only.at ?_
        try dsimp only
        gi_upto_region 17 with fail
        refine round_lit (by kernel_rfl) ?_
        try simp only [gelS]
        refine chk 3 ?_
        refine wpList_nil ?_
        refine Only.at ?_
        try dsimp only
        gi_wp2
        gi_loopw [11, 13, 14] (fun kv xv _ wr => ∃ (j k : Nat) (R : List Px), (j : Int) ≤ c.x1 - c.x0 ∧ Hid (k = i * Wd + j) ∧ kv = .int .i64 (k : Int) ∧ xv = .int .i64 (c.x0 + (j : Int)) ∧ Hid (inkR c (fun x y => inkP s (covD D x y) (getL M x y)) (fun x y => getL M x y) k = R) ∧ Below W.heap.size W wr ∧ AtB 45 wr b7 (dbE.enc D) ∧ AtB 38 wr b_c8 (rcA c) ∧ AtB 117 wr b_i9 (imgC c (.slice (some ⟨cb, 0, none⟩) (areaN c) (areaN c))) ∧ AtB 114 wr b_f6 #[.func (.func gf) #[] lb] ∧ AtB 30 wr b_r3 (stC (.slice (some ⟨g, o, none⟩) s.pts.length cd) s) ∧ RowAt pxE wr cb R) (fun _ xv _ _ => (c.x1 - intOf xv).toNat)
        case atStart => exact ⟨0, k, R, by omega, Lib.hid (by rw [Nat.add_zero]; exact HK.out), rfl, by rw [Int.natCast_zero, Int.add_zero], HR, B, p7, c8, i9, f6, r3, row⟩
        case round =>
         clear B p7 c8 i9 f6 r3 row HR HK
         obtain ⟨j, k, R, hj, HK, rfl, rfl, HR, B, p7, c8, i9, f6, r3, row⟩ := hrel
         by_cases hj1 : (j : Int) < c.x1 - c.x0
         ·have q3 : decide (c.x0 + (j : Int) < c.x1) = true := decide_eq_true (by omega)
          have hat := ink_step HFit.out (fun x y => inkP s (covD D x y) (getL M x y)) (fun x y => getL M x y) (i := i) (j := j) hj1 hi1
          rw [HWD.out] at hat
          simp only [← Nat.add_assoc, ← HK.out] at hat
          obtain ⟨hka, hp, hset, hsame⟩ := hat
          have okp : (getL M (c.x0 + (j : Int)) (c.y0 + (i : Int))).ok := tileL_tok TM.out _ _ _ (by omega)
          obtain ⟨p, hpe⟩ : ∃ p, getL M (c.x0 + (j : Int)) (c.y0 + (i : Int)) = p := ⟨_, rfl⟩
          obtain ⟨n, hn⟩ : ∃ n, covD D (c.x0 + (j : Int)) (c.y0 + (i : Int)) = n := ⟨_, rfl⟩
          have hnb := covD_bd D (c.x0 + (j : Int)) (c.y0 + (i : Int))
          rw [hpe] at hp hset hsame okp
          rw [hn] at hset hsame hnb
          rw [HR.out] at hp hset hsame
          have HN := Lib.hid hn
          have OKP := Lib.hid okp
          have hRl : R.length = areaN c := by rw [← HR.out]; exact inkR_len _ _ _ _
          have hA2 := HA.out
          have hkR : k < R.length := by omega
          have HP := Lib.hid hp
          clear hn hpe okp hp
          gi_upto_region 18 with fail
          refine round_lit (by kernel_rfl) ?_
          try simp only [gelS]
          refine chk 4 ?_
          refine wpList_nil ?_
          refine Only.at ?_
          try dsimp only
          gi_upto_region 20 with fail
          refine round_lit (by kernel_rfl) ?_
          try simp only [gelS]
          refine chk 3 ?_
          refine clF (enters_of Tryz.func24 (by kernel_rfl) rfl) (c := P_Cover D (c.x0 + (j : Int)) (c.y0 + (i : Int)) n _ (by omega) (by omega) (by omega) HN.out) (h := ?_)
          rintro e wn ⟨rfl, hbn⟩
          have hsz := B.size
          have hzn := hbn.size
          replace B := B.trans (hbn.mono B.size)
          (try replace p7 := p7.below hbn)
          (try replace c8 := c8.below hbn)
          (try replace i9 := i9.below hbn)
          (try replace f6 := f6.below hbn)
          (try replace r3 := r3.below hbn)
          (try replace row := row.below hbn)
          refine ⟨_, rfl, ?_⟩
          simp only [putS]
          refine chk 1 ?_
          refine wpList_nil ?_
          refine Only.at ?_
          try dsimp only
          by_cases hn0 : 0 < n
          ·have q4 : decide (0 < n) = true := decide_eq_true hn0
           have q4' : decide (n > 0) = true := decide_eq_true hn0
           obtain ⟨q, hq⟩ : ∃ q, chP s p n = q := ⟨_, rfl⟩
           rw [inkP_ch, if_pos hn0, hq] at hset
           have HQ := Lib.hid hq
           have HSET := Lib.hid hset
           clear hq hset hsame
           gi_upto_region 21 with fail
           refine round_lit (by kernel_rfl) ?_
           try simp only [gelS]
           refine chk 2 ?_
           refine wpList_nil ?_
           refine Only.at ?_
           try dsimp only
           have rc := row.cells
           have q5 : decide ((k : Int) < (areaN c : Int)) = true := decide_eq_true (by omega)
           have q6 : decide (k < areaN c) = true := decide_eq_true hka
           gi_upto_region 22 with fail
           try simp only [gelS]
           try have lx_p7 := p7.lt
           try have lx_c8 := c8.lt
           try have lx_i9 := i9.lt
           try have lx_f6 := f6.lt
           try have lx_r3 := r3.lt
           try have lx_row := row.lt
           try have lx_rc := rc.lt
           refine round_RL (by kernel_rfl) 12 [(10, detS ?v2_10)] (by kernel_rfl) (by kernel_rfl) (by kernel_rfl) ?_
           rotate_left 1
           simp only [takS, Nat.reduceAdd]
           refine crq 10 ?_
           repeat (first | go_big_quiet_skip | (go_big_quiet_want; first | ((first | refine quiet_loadAny (t := 115) rfl _ _ _ rfl (fun w hw => run_load_slp (imgC_u (ov_B i9 w hw))) (by first | rfl | omega) ?_ | refine quiet_loadAny (t := 114) rfl _ _ _ rfl (fun w hw => run_load_fu (ov_B f6 w hw)) (by rfl) ?_ | refine quiet_loadAny (t := 28) rfl _ _ _ rfl (fun w hw => (ov_rce rc w hw).load Tryz.isAgg28 HP.out) (by first | rfl | omega) ?_ | refine qB ?_ | refine qC ?_); simp only [putS]; go_big_quiet_on) | (go_big_quiet_op; go_big_quiet_on)))
           refine wpQuiet_nil ?_
           refine wpRL_callB (by rfl) (by first | rfl | simp [Region.wanted, yielded]) ?_ ?_
           ·intro wn hbn hE Kx hKx
            have hsz := B.size
            have hzn := hbn.size
            replace B := B.trans (hbn.mono B.size)
            (try replace p7 := p7.below hbn)
            (try replace c8 := c8.below hbn)
            (try replace i9 := i9.below hbn)
            (try replace f6 := f6.below hbn)
            (try replace r3 := r3.below hbn)
            (try replace row := row.below hbn)
            (try replace rc := rc.below hbn)
            refine wp_callV rfl (by simp only [Act.eval, evlS]; rfl) HEN.out (by simp only [Act.eval, evlS]; rfl) ?_
            refine (HCH.out wn p q n r3 OKP.out hnb HQ.out).mono ?_
            rintro e wm ⟨rfl, hbm⟩
            refine ⟨_, rfl, ?_⟩
            have hz := hKx () wm trivial hbm
            dsimp only [detS] at hz
            exact hz
           rintro ⟨⟩
           dsimp only [detS]
           simp only [putS]
           refine crk 1 ?_
           refine wpRL_nil ?_
           intro wn hbn hE
           have hsz := B.size
           have hzn := hbn.size
           replace B := B.trans (hbn.mono B.size)
           (try replace p7 := p7.below hbn)
           (try replace c8 := c8.below hbn)
           (try replace i9 := i9.below hbn)
           (try replace f6 := f6.below hbn)
           (try replace r3 := r3.below hbn)
           (try replace row := row.below hbn)
           (try replace rc := rc.below hbn)
           clear hE
           try simp only [List.drop_succ_cons, List.drop_zero]
           clear rc
           (refine wpList_storeRow rfl _ _ rfl _ _ rfl q rfl row k hkR (by first | rfl | omega) (stK B (by omega) ?_); clear row B; intro wn row hcn hsz hzn B; (try replace p7 := p7.of_eq (hcn.block _ p7.lt (by omega))); (try replace c8 := c8.of_eq (hcn.block _ c8.lt (by omega))); (try replace i9 := i9.of_eq (hcn.block _ i9.lt (by omega))); (try replace f6 := f6.of_eq (hcn.block _ f6.lt (by omega))); (try replace r3 := r3.of_eq (hcn.block _ r3.lt (by omega))); simp only [putS])
           refine wpList_nil ?_
           refine NoPan.normal ?_
           refine Only.at ?_
           try dsimp only
           rw [HSET.out] at row
           gi_upto_region 23 with fail
           refine round_lit (by kernel_rfl) ?_
           try simp only [gelS]
           refine chk 3 ?_
           refine wpList_nil ?_
           refine Only.at ?_
           try dsimp only
           gi_upto_region 19 with fail
           refine round_lit (by kernel_rfl) ?_
           try simp only [gelS]
           refine chk 3 ?_
           refine wpList_nil ?_
           refine Only.at ?_
           try dsimp only
           gi_wp2
           go_roundw
           case rel => exact ⟨j + 1, k + 1, _, by omega, Lib.hid (by rw [HK.out, Nat.add_assoc]), by go_num, by go_num, Lib.hid rfl, B, p7, c8, i9, f6, r3, row⟩
           case measure => simp [intOf]; omega
          ·have q4 : decide (0 < n) = false := decide_eq_false hn0
           have q4' : decide (n > 0) = false := decide_eq_false hn0
           rw [inkP_ch, if_neg hn0] at hsame
           have HSAME := Lib.hid (hsame rfl)
           clear hset hsame
           gi_upto_region 21 with fail
           refine round_lit (by kernel_rfl) ?_
           try simp only [gelS]
           refine chk 2 ?_
           refine wpList_nil ?_
           refine Only.at ?_
           try dsimp only
           gi_upto_region 23 with fail
           refine round_lit (by kernel_rfl) ?_
           try simp only [gelS]
           refine chk 3 ?_
           refine wpList_nil ?_
           refine Only.at ?_
           try dsimp only
           gi_upto_region 19 with fail
           refine round_lit (by kernel_rfl) ?_
           try simp only [gelS]
           refine chk 3 ?_
           refine wpList_nil ?_
           refine Only.at ?_
           try dsimp only
           gi_wp2
           go_roundw
           case rel => exact ⟨j + 1, k + 1, R, by omega, Lib.hid (by rw [HK.out, Nat.add_assoc]), by go_num, by go_num, HSAME, B, p7, c8, i9, f6, r3, row⟩
           case measure => simp [intOf]; omega
         ·have q3 : decide (c.x0 + (j : Int) < c.x1) = false := decide_eq_false (by omega)
          have HKN := Lib.hid (show k = (i + 1) * Wd from by rw [Nat.add_mul, Nat.one_mul, HK.out]; omega)
          gi_upto_region 18 with fail
          refine round_lit (by kernel_rfl) ?_
          try simp only [gelS]
          refine chk 4 ?_
          refine wpList_nil ?_
          refine Only.at ?_
          try dsimp only
          gi_upto_region 16 with fail
          refine round_lit (by kernel_rfl) ?_
          try simp only [gelS]
          refine chk 3 ?_
          refine wpList_nil ?_
          refine Only.at ?_
          try dsimp only
          gi_wp2
          go_roundw
          case rel => exact ⟨i + 1, k, R, by omega, HKN, rfl, by go_num, HR, B, p7, c8, i9, f6, r3, row⟩
          case measure => simp [intOf]; omega
       ·have q2 : decide (c.y0 + (i : Int) < c.y1) = false := decide_eq_false (by omega)
        have hiH : i = (c.y1 - c.y0).toNat := by omega
        have hkA : k = areaN c := by rw [HK.out, HAW.out, HWD.out, hiH, Nat.mul_comm]
        have hRI : R = I := by rw [← HR.out, hkA, inkR_all, ← HI.out]
        subst hRI
        clear hkA hiH HR
        gi_upto_region 15 with fail
        refine round_lit (by kernel_rfl) ?_
        try simp only [gelS]
        refine chk 4 ?_
        refine wpList_nil ?_
        refine Only.at ?_
        try dsimp only
        gi_upto_region 24 with fail
        have r2 := R2W.out.of_eq (B.block _ l2)
        have rs1 := RS1W.out.below B
        have hu := row.rs
        rw [hIn] at hu
        have hA2 := HA.out
        gi_upto_region 24 with fail
        refine round_lit (by kernel_rfl) ?_
        try simp only [gelS]
        refine chq 2 ?_
        repeat (first | go_big_quiet_skip | (go_big_quiet_want; first | ((first | refine quiet_loadAny (t := 117) rfl _ _ _ rfl (fun w hw => run_load_img (ov_B i9 w hw)) (by first | rfl | omega) ?_ | refine qB ?_ | refine qC ?_); simp only [putS]; go_big_quiet_on) | (go_big_quiet_op; go_big_quiet_on)))
        refine wpQuiet_nil ?_
        refine clF (enters_of Tryz.func77 (by kernel_rfl) rfl) (c := P_PasteB _ M R' E c _ R _ rs1 TM.out (by unfold maxLen; omega) hu (by rw [hIn]; unfold maxLen; omega) OKI.out HR'.out HEe.out) (h := ?_)
        rintro e wn ⟨a5, c5, rfl, rs5, hbn⟩
        have hsz := B.size
        have hzn := hbn.size
        replace B := B.trans (hbn.mono B.size)
        (try replace r2 := r2.below hbn)
        (try replace f6 := f6.below hbn)
        (try replace r3 := r3.below hbn)
        clear rs1 hu row
        refine ⟨_, rfl, ?_⟩
        simp only [putS]
        refine chk 3 ?_
        (refine wpList_allocBk (t := 64) rfl _ (run_alloc_R _ _ rfl) (alK B ?_); clear B; intro b_t15 wn hle hge t15 hbn hsz hln B; (try have hlt := r2.lt); (try replace r2 := r2.below (hbn.mono hle)); (try have hlt := i9.lt); (try have hlt := f6.lt); (try replace f6 := f6.below (hbn.mono hle)); (try have hlt := r3.lt); (try replace r3 := r3.below (hbn.mono hle)); (try have hlt := rs5.lt); (try replace rs5 := rs5.below (hbn.mono hle)); simp only [putS])
        (refine wpList_storeB (t := 64) rfl _ _ rfl _ rfl _ rfl t15 (by kernel_rfl) rfl (by simp [Value.oneCell']) (stK B (by omega) ?_); have t15o := t15; clear t15 B; intro wn t15 hcn hsz hzn B; (try replace rs5 := rs5.chg t15o (by simp) hcn); (try replace r2 := r2.of_eq (hcn.block _ r2.lt (by omega))); (try replace f6 := f6.of_eq (hcn.block _ f6.lt (by omega))); (try replace r3 := r3.of_eq (hcn.block _ r3.lt (by omega))); simp only [putS])
        refine chk 1 ?_
        refine wpList_nil ?_
        refine Only.at ?_
        try dsimp only
        have hrs5 : R'.length ≤ R'.length := Nat.le_refl _
        have hws5 := B.size
        by_cases hE0 : E = 0
        ·subst hE0
         gi_upto_region 25 with fail
         refine round_lit (by kernel_rfl) ?_
         try simp only [gelS]
         refine chk 2 ?_
         refine wpList_nil ?_
         refine Only.at ?_
         try dsimp only
         gi_upto_region 27 with fail
         refine round_lit (by kernel_rfl) ?_
         try simp only [gelS]
         refine chk 1 ?_
         (refine wpList_storeB (t := 64) rfl _ _ rfl _ rfl _ rfl r2 (by kernel_rfl) rfl (by simp [Value.oneCell']) ?_; intro wn ht hcn hzn; have r2o := r2; clear r2; have r2 := ht; clear ht; simp only [putS])
         refine wpList_nil ?_
         refine Only.at ?_
         try dsimp only
         gi_wp2
         have CH := (Chg.of_below (b := b_r2) B).trans hcn
         refine ⟨KeepsOthers.chgB CH R2W.out, (KpW.below B).trans (KpW.exc hcn.size (fun j h1 h2 => hcn.block j h1 h2) r2o (by decide)), a5, c5, R', Lib.hid ?_, r2, rs5.chg r2o (by simp) hcn, r3.of_eq (hcn.block _ r3.lt (by omega)), ?_, ?_, f6.of_eq (hcn.block _ f6.lt (by omega)), ?_, Chg.below (BWW.out.trans (B.mono hws)) hcn k2 (Nat.le_trans hws hws5)⟩
         ·rw [HS2.out, HR'.out, HEe.out]
         ·have h4 := R4W.out.of_eq (B.block _ l4)
          exact h4.of_eq (hcn.block _ h4.lt (by omega))
         ·have h5 := E5W.out.of_eq (B.block _ l5)
          exact h5.of_eq (hcn.block _ h5.lt (by omega))
         ·have h0 := LMW.out.below B
          exact h0.of_eq (hcn.block _ h0.lt (by omega))
        ·have q7 : (E != 0) = true := by simpa using hE0
         gi_upto_region 25 with fail
         refine round_lit (by kernel_rfl) ?_
         try simp only [gelS]
         refine chk 2 ?_
         refine wpList_nil ?_
         refine Only.at ?_
         try dsimp only
         have r4 := R4W.out.of_eq (B.block _ l4)
         have e5 := E5W.out.of_eq (B.block _ l5)
         have BE := BWW.out.trans (B.mono hws)
         have KE := KeepsOthers.below B
         gi_upto_region 26 with fail
         refine round_lit (by kernel_rfl) ?_
         try simp only [gelS]
         (refine wpList_val rfl (.agg #[.slice none 0 0]) (by kernel_rfl) ?_; simp only [putS])
         refine chk 1 ?_
         (refine wpList_storeB (t := 64) rfl _ _ rfl _ rfl _ rfl r4 (by kernel_rfl) rfl (by simp [Value.oneCell']) ?_; have HTO := r4; clear r4; intro wn ht hcn hzn; replace hzn := Nat.le_of_eq hzn.symm; replace BE := Chg.below BE hcn (by omega) BE.size; replace KE := KE.trans (KeepsOthers.chgB hcn HTO); (try replace e5 := e5.of_eq (hcn.block _ e5.lt (by omega))); have r4 := ht; clear ht; simp only [putS])
         (refine wpList_stEr rfl _ _ rfl _ rfl _ rfl e5 ?_; have HTO := e5; clear e5; intro wn ht hcn hzn; replace hzn := Nat.le_of_eq hzn.symm; replace BE := Chg.below BE hcn (by omega) BE.size; replace KE := KE.trans (KeepsOthers.chgB hcn HTO); (try replace r4 := r4.of_eq (hcn.block _ r4.lt (by omega))); have e5 := ht; clear ht; simp only [putS])
         refine wpList_nil ?_
         refine Only.at ?_
         try dsimp only
         gi_wp2
         exact ⟨KE, rfl, E, Lib.hid ⟨by rw [HS2.out, HEe.out], hE0⟩, r4, e5, BE⟩
end Go.Proofs.YtepelndbbhdofaaGreatDoor
/- Contracts: Paint of package stroke, refused; Paint of its reference. -/
namespace Go.Proofs.YtepelndbbhdofaaGreatDoor
open Go.RowKit Go.Shelf Pl
set_option linter.unusedVariables false
set_option linter.unusedSimpArgs false
set_option maxRecDepth 20000
theorem P_Paint_no (v vs : Value) (s : Stk) (ls : List TA) (w : World) (h : RS v ls w) (rs : RSE spE vs s.pts w) (hn : s.pts.length ≤ 17592186044416) (hv : validS s = false) : Calls Tryz.prog 30 #[.agg #[v], .agg (stC vs s)] w fun e w' => e = .returned (.tuple #[.agg #[.slice none 0 0], .int .i64 1]) ∧ Below w.heap.size w w' := by
 have B := Below.refl w.heap.size w
 have HV0 := Lib.hid hv
 obtain ⟨ad, cd, rfl, hcd⟩ := rs.len
 obtain ⟨a, c, rfl, hc⟩ := h.len
 clear hv h
 go_enter Tryz.func30, Tryz.ntmps30
 go_upto_region 0 with fail
 refine wp_region_lit ?_
 try simp only [gelS]
 (refine wpList_boxB (t := 64) rfl _ rfl _ rfl (alK B ?_); clear B; intro b_r2 wn hle hge r2 hbn hsz hln B; (try have hlt := rs.lt); (try replace rs := rs.below (hbn.mono hle)); simp only [putS])
 (refine wpList_boxB (t := 30) rfl _ rfl _ rfl (alK B ?_); clear B; intro b_r3 wn hle hge r3 hbn hsz hln B; (try have hlt := r2.lt); (try have hlt := rs.lt); (try replace rs := rs.below (hbn.mono hle)); simp only [putS])
 (refine wpList_allocBk (t := 64) rfl _ (run_alloc_R _ _ rfl) (alK B ?_); clear B; intro b_r4 wn hle hge r4 hbn hsz hln B; (try have hlt := r2.lt); (try have hlt := r3.lt); (try replace r3 := r3.below (hbn.mono hle)); (try have hlt := rs.lt); (try replace rs := rs.below (hbn.mono hle)); simp only [putS])
 (refine wpList_allocBk (t := 53) rfl _ (run_alloc_Er _ _ rfl) (alK B ?_); clear B; intro b_e5 wn hle hge e5 hbn hsz hln B; (try have hlt := r2.lt); (try have hlt := r3.lt); (try replace r3 := r3.below (hbn.mono hle)); (try have hlt := r4.lt); (try replace r4 := r4.below (hbn.mono hle)); (try have hlt := rs.lt); (try replace rs := rs.below (hbn.mono hle)); simp only [putS])
 refine wpList_nil ?_
 have k5 : b_r4 < b_e5 := by have := r4.lt; omega
 go_upto_region 1 with fail
 refine wp_region_lit ?_
 try simp only [gelS]
 refine chk 1 ?_
 refine clF (enters_of Tryz.func16 (by kernel_rfl) rfl) (c := P_Valid14 _ s false _ rs hn HV0.out) (h := ?_)
 rintro e wn ⟨rfl, hbn⟩
 have hsz := B.size
 have hzn := hbn.size
 replace B := B.trans (hbn.mono B.size)
 (try replace r4 := r4.below hbn)
 (try replace e5 := e5.below hbn)
 refine ⟨_, rfl, ?_⟩
 simp only [putS]
 refine chk 1 ?_
 refine wpList_nil ?_
 go_upto_region 2 with fail
 refine wp_region_lit ?_
 try simp only [gelS]
 (refine wpList_val rfl (.agg #[.slice none 0 0]) (by kernel_rfl) ?_; simp only [putS])
 (refine wpList_storeB (t := 64) rfl _ _ rfl _ rfl _ rfl r4 (by kernel_rfl) rfl (by simp [Value.oneCell']) (stK B (by omega) ?_); clear r4 B; intro wn r4 hcn hsz hzn B; (try replace e5 := e5.of_eq (hcn.block _ e5.lt (by omega))); simp only [putS])
 (refine wpList_stEr rfl _ _ rfl _ rfl _ rfl e5 (stK B (by omega) ?_); clear e5 B; intro wn e5 hcn hsz hzn B; (try replace r4 := r4.of_eq (hcn.block _ r4.lt (by omega))); simp only [putS])
 refine wpList_nil ?_
 first | (refine bodyPost_ret (results_BI (t := 64) (u := 53) rfl _ _ b_r4 b_e5 rfl rfl r4 (run_load_er e5) Tryz.isAgg64 (by kernel_rfl)) rfl ?_) | (go_step; refine bodyPost_ret (results_BI (t := 64) (u := 53) rfl _ _ b_r4 b_e5 rfl rfl r4 (run_load_er e5) Tryz.isAgg64 (by kernel_rfl)) rfl ?_) | (go_step; go_step; refine bodyPost_ret (results_BI (t := 64) (u := 53) rfl _ _ b_r4 b_e5 rfl rfl r4 (run_load_er e5) Tryz.isAgg64 (by kernel_rfl)) rfl ?_) | (go_step; go_step; go_step; refine bodyPost_ret (results_BI (t := 64) (u := 53) rfl _ _ b_r4 b_e5 rfl rfl r4 (run_load_er e5) Tryz.isAgg64 (by kernel_rfl)) rfl ?_) | (go_step; go_step; go_step; go_step; refine bodyPost_ret (results_BI (t := 64) (u := 53) rfl _ _ b_r4 b_e5 rfl rfl r4 (run_load_er e5) Tryz.isAgg64 (by kernel_rfl)) rfl ?_) | (go_step; go_step; go_step; go_step; go_step; refine bodyPost_ret (results_BI (t := 64) (u := 53) rfl _ _ b_r4 b_e5 rfl rfl r4 (run_load_er e5) Tryz.isAgg64 (by kernel_rfl)) rfl ?_)
 exact ⟨rfl, B⟩
/-- Paint of package stroke. -/
theorem P_PaintA (v vs : Value) (s : Stk) (ls ks : List TA) (E : Int) (w : World) (lm : LimAt w) (h : RS v ls w) (tk : TokL ls) (hn : ls.length ≤ maxLen) (rs : RSE spE vs s.pts w) (hn2 : s.pts.length ≤ 17592186044416) (hcol : s.col.ok) (e : paintS s ls = (ks, E)) : Calls Tryz.prog 30 #[.agg #[v], .agg (stC vs s)] w fun e w' => ∃ a cp, e = .returned (.tuple #[.agg #[.slice a ks.length cp], .int .i64 E]) ∧ RS (.slice a ks.length cp) ks w' ∧ Below w.heap.size w w' := by
 cases hv : validS s with
 | true =>
  have := P_Paint_ok v vs s ls w lm h tk hn rs hv hcol
  rw [e] at this
  exact this
 | false =>
  have e1 : paintS s ls = ([], 1) := if_neg (by rw [hv]; simp)
  rw [e1] at e
  injection e with e1 e2
  subst e1 e2
  exact (P_Paint_no v vs s ls w h rs hn2 hv).mono fun e w' ⟨h1, h2⟩ => ⟨none, 0, h1, RS.nil _, h2⟩
/-! ### The reference -/
/-- The pixels so far. -/
def inkK (c : Rc) (F : Int → Int → Px) (k : Nat) : List Px := (List.range k).map fun j => F (pxX c j) (pxY c j)
end Go.Proofs.YtepelndbbhdofaaGreatDoor
/- The values of the sanity check of chapter 14's laws; slice literals; line. -/
namespace Go.Proofs.YtepelndbbhdofaaGreatDoor
open Go.RowKit Go.Shelf Pl Sha
set_option linter.unusedVariables false
set_option linter.unusedSimpArgs false
set_option maxRecDepth 20000
section
variable {α : Type} {k : Nat} {T ST : TypeId} {E : Elt α k T ST}
theorem fill_rowZ (ls : List α) (cs : Array Value) (hs : cs.size = ls.length * k) : Instr.fill (fun i => some (i * k, k)) cs (((ls.map fun x => Value.agg (E.enc x)).zipIdx 0).map fun y => (y.2, y.1)) = some (rowE E ls).toArray := by
 obtain ⟨r, hr1, hr2, hr3⟩ := Great.fill_dense E.pos (ls.map fun x => Value.agg (E.enc x)) 0 cs (fun v hv => by obtain ⟨x, _, rfl⟩ := List.mem_map.1 hv; simp only [Value.cells, E.size]) (by rw [List.length_map, hs, Nat.zero_add]; exact Nat.le_refl _)
 rw [hr1]
 congr 1
 apply Array.ext_getElem?
 intro j
 have hr : (rowE E ls).toArray[j]? = (rowE E ls)[j]? := by rw [List.getElem?_toArray]
 rw [hr3 j, List.length_map, hr, Nat.zero_add]
 by_cases h : j < ls.length * k
 ·obtain ⟨h1, h2, h3⟩ := div_mod_lt E.pos h
  have hx : ls[j / k]? = some ls[j / k] := List.getElem?_eq_getElem h1
  have h4 := rowE_at E ls (j / k) _ hx (j % k) h2
  rw [← h3] at h4
  rw [if_pos ⟨by rw [Nat.zero_mul]; omega, h⟩, h4, Nat.sub_zero, List.getElem?_map, hx]
  simp only [Option.map_some, Option.bind_some, Value.cells]
 ·rw [if_neg (fun h' => h h'.2), Array.getElem?_eq_none (by rw [hs]; exact Nat.le_of_not_lt h), List.getElem?_eq_none (by rw [rowE_length]; exact Nat.le_of_not_lt h)]
variable {ops : Array Oper} {rest : List Oper} {o : Oper} {a : Act} {w : World} {Q : Exit → Act → World → Prop}
theorem owp_bsnZ {K : Act → World → Prop} (n : Nat) (ps : Array (Nat × Operand)) (ho : o.op = .buildSlice ST n ps) (ls : List α) (hl : ls.length = n) (hp : (ps.map fun (i, x) => (i, a.eval x)).toList = ((ls.map fun x => Value.agg (E.enc x)).zipIdx 0).map fun y => (y.2, y.1)) (hn : 0 < n) (hk : n * k ≤ 1000)
  (h : ∀ b w', w.heap.size ≤ b → b ≤ w.heap.size → RowAt E w' b ls → Below b w w' → w'.heap.size = b + 1 → K (a.put o.dst (.slice (some ⟨b, 0, none⟩) n n)) w') : o.wp Tryz.prog a w K Q := by
 obtain ⟨i, z, hi, hz, hsz, hby, hzc⟩ := E.facts
 have hp0 := Nat.mul_pos hn E.pos
 refine wp_buildSlice ST T n ps ho (rowE E ls).toArray i z E.und hi hz (by rw [hsz]; omega) (by rw [hsz]; omega) ?_ (h _ _ (Nat.le_refl _) (Nat.le_refl _) (by unfold RowAt AtB; rw [heap_get_alloc, if_pos rfl]) ((Below.refl _ _).alloc (Nat.le_refl _) _) (World.size_alloc _ _))
 rw [hsz, hp]
 exact fill_rowZ ls _ (by rw [hl]; simp)
theorem wpList_bsnZ (hw : Region.wanted o (yielded ops a.tmps) = true) (n : Nat) (ps : Array (Nat × Operand)) (ho : o.op = .buildSlice ST n ps) (ls : List α) (hl : ls.length = n) (hp : (ps.map fun (i, x) => (i, a.eval x)).toList = ((ls.map fun x => Value.agg (E.enc x)).zipIdx 0).map fun y => (y.2, y.1)) (hn : 0 < n) (hk : n * k ≤ 1000)
  (h : ∀ b w', w.heap.size ≤ b → b ≤ w.heap.size → RowAt E w' b ls → Below b w w' → w'.heap.size = b + 1 → wpList Tryz.prog ops Q rest (a.put o.dst (.slice (some ⟨b, 0, none⟩) n n)) w') : wpList Tryz.prog ops Q (o :: rest) a w := by
 unfold wpList
 rw [if_pos hw]
 exact .inl (owp_bsnZ n ps ho ls hl hp hn hk h)
end
/-! ### The example -/
def lineS : Stk := ⟨[⟨0, 0, 255⟩, ⟨100, 0, 255⟩, ⟨100, 30, 255⟩], 16, 40, ⟨200, 0, 0, 255⟩, false, 10⟩
def wantD : List Db := [⟨10, 0, 16⟩, ⟨50, 0, 16⟩, ⟨90, 0, 16⟩]
theorem ln1 : validS lineS = true := by decide +kernel
theorem ln2 : dabsL lineS = wantD := by decide +kernel
theorem ln3 : (spB lineS 1).pha = 30 := by decide +kernel
theorem ln4 : dabsL (spB lineS 1) = [] := by decide +kernel
theorem ln5 : covD ⟨8, 8, 8⟩ 0 0 = 191 := by decide +kernel
theorem ln6 : areaS lineS = ⟨-1, -1, 7, 2⟩ := by decide +kernel
theorem ln7 : validS zSt = false := by decide +kernel
theorem ln8 : readL [] = (zSt, 10) := read_short (by decide)
theorem lineS_col : lineS.col.ok := by unfold Px.ok lineS; simp
theorem ln9 : readL (bytesL lineS) = (lineS, 0) := read_bytes ((validS_iff _).1 ln1) lineS_col
def boxS : Rc := ⟨-1, -1, 1, 1⟩
theorem ln_box : ∀ d ∈ wantD, okD d ∧ BoxD boxS d := fun d hd => by
 have hc : d = ⟨10, 0, 16⟩ ∨ d = ⟨50, 0, 16⟩ ∨ d = ⟨90, 0, 16⟩ := by simpa [wantD] using hd
 rcases hc with rfl | rfl | rfl
 ·refine ⟨by unfold okD; decide, fun _ x y h => ?_⟩
  have e : tlR (sqC ⟨10, 0, 16⟩) = ⟨-1, -1, 1, 1⟩ := by decide +kernel
  rw [e] at h
  exact h
 ·refine ⟨by unfold okD; decide, fun _ x y h => ?_⟩
  have e : tlR (sqC ⟨50, 0, 16⟩) = ⟨0, -1, 1, 1⟩ := by decide +kernel
  rw [e] at h
  rw [hasR_iff] at h ⊢
  unfold boxS
  simp only at h ⊢
  omega
 ·refine ⟨by unfold okD; decide, fun _ x y h => ?_⟩
  have e : tlR (sqC ⟨90, 0, 16⟩) = ⟨0, -1, 1, 1⟩ := by decide +kernel
  rw [e] at h
  rw [hasR_iff] at h ⊢
  unfold boxS
  simp only at h ⊢
  omega
theorem boxS_fits : Fits boxS := by unfold boxS; refine ⟨?_, ?_, ?_, ?_, ?_, ?_, ?_, ?_⟩ <;> (simp only; omega)
theorem ln_ink : (inkF lineS wantD []).2 = 0 := (inkF_box (s := lineS) boxS_fits (by decide) wantD [] (fun d h => (ln_box d h).1) (fun d h => (ln_box d h).2) validL_nil (fun e h => by cases h)).1
theorem fineL_nil : fineL [] = [] := fineL_of validL_nil
theorem ln_dabs : dabsF lineS = wantD := by
 have := ln2
 unfold dabsL at this
 rw [ln1] at this
 exact this
theorem ln_paint : paintS lineS [] = inkF lineS wantD [] := by
 unfold paintS
 rw [if_pos ln1, ln_dabs, fineL_nil]
theorem ln10 : (paintS lineS []).2 = 0 := by rw [ln_paint]; exact ln_ink
theorem ln11 : (getL (paintS lineS []).1 0 0).a > 0 := by
 rw [ln_paint, inkF_get lineS_col 0 0 wantD [] (fun d h => (ln_box d h).1) validL_nil TokL.nil ln_ink]
 decide +kernel
/- line, sanity of chapter 14's laws. -/
set_option maxHeartbeats 1000000 in
theorem L14_line (w : World) : Calls Tryz.prog 48 #[] w fun e w' => ∃ b, e = .returned (.agg (stC (.slice (some ⟨b, 0, none⟩) 3 3) lineS)) ∧ RSE spE (.slice (some ⟨b, 0, none⟩) 3 3) lineS.pts w' ∧ Below w.heap.size w w' := by
 have B := Below.refl w.heap.size w
 go_enter Tryz.func48, Tryz.ntmps48
 go_upto_region 0 with fail
 refine wp_region_lit ?_
 try simp only [gelS]
 (refine wpList_allocBk (t := 30) rfl _ (run_alloc_St _ _ rfl) (alK B ?_); clear B; intro b_r0 wn hle hge r0 hbn hsz hln B; simp only [putS])
 refine wpList_nil ?_
 have hr0 := r0.lt
 go_upto_region 1 with fail
 refine wp_region_lit ?_
 try simp only [gelS]
 (refine wpList_val rfl (.agg #[.int .i64 0, .int .i64 0, .int .i64 255]) (by first | rfl | kernel_rfl | simp [go_sem, Act.eval]) ?_; simp only [putS])
 (refine wpList_val rfl (.agg #[.int .i64 100, .int .i64 0, .int .i64 255]) (by first | rfl | kernel_rfl | simp [go_sem, Act.eval]) ?_; simp only [putS])
 (refine wpList_val rfl (.agg #[.int .i64 100, .int .i64 30, .int .i64 255]) (by first | rfl | kernel_rfl | simp [go_sem, Act.eval]) ?_; simp only [putS])
 (refine wpList_bsnZ (E := spE) (by first | rfl | simp [Region.wanted, yielded]) 3 _ rfl lineS.pts rfl (by simp only [Act.eval, evlS]; rfl) (by omega) (by omega) (alK B ?_); clear B; intro b_row wn hle hge row hbn hsz hln B; (try have hlt := r0.lt); (try replace r0 := r0.below (hbn.mono hle)); simp only [putS])
 (refine wpList_val rfl (.agg #[.int .u8 200, .int .u8 0, .int .u8 0, .int .u8 255]) (by first | rfl | kernel_rfl | simp [go_sem, Act.eval]) ?_; simp only [putS])
 (refine wpList_val rfl (.agg (stC (.slice (some ⟨b_row, 0, none⟩) 3 3) lineS)) (by first | rfl | kernel_rfl | simp [go_sem, Act.eval]) ?_; simp only [putS])
 (refine wpList_storeB (t := 30) rfl _ _ rfl _ rfl _ rfl r0 (by kernel_rfl) rfl (by simp [stC, Value.oneCell']) (stK B (by omega) ?_); clear r0 B; intro wn r0 hcn hsz hzn B; replace row := row.of_eq (hcn.block _ row.lt (by omega)); simp only [putS])
 refine wpList_nil ?_
 first | (refine bodyPost_ret (results_B (t := 30) rfl _ _ (b_r0) rfl r0 Tryz.isAgg30 (by kernel_rfl)) rfl ?_) | (go_step; refine bodyPost_ret (results_B (t := 30) rfl _ _ (b_r0) rfl r0 Tryz.isAgg30 (by kernel_rfl)) rfl ?_) | (go_step; go_step; refine bodyPost_ret (results_B (t := 30) rfl _ _ (b_r0) rfl r0 Tryz.isAgg30 (by kernel_rfl)) rfl ?_) | (go_step; go_step; go_step; refine bodyPost_ret (results_B (t := 30) rfl _ _ (b_r0) rfl r0 Tryz.isAgg30 (by kernel_rfl)) rfl ?_) | (go_step; go_step; go_step; go_step; refine bodyPost_ret (results_B (t := 30) rfl _ _ (b_r0) rfl r0 Tryz.isAgg30 (by kernel_rfl)) rfl ?_) | (go_step; go_step; go_step; go_step; go_step; refine bodyPost_ret (results_B (t := 30) rfl _ _ (b_r0) rfl r0 Tryz.isAgg30 (by kernel_rfl)) rfl ?_)
 exact ⟨_, rfl, row.rs, B⟩
/-- Split of the example. -/
theorem ln_split (v : Value) (w : World) (rs : RSE spE v lineS.pts w) : Calls Tryz.prog 26 #[.agg (stC v lineS), .int .i64 1] w fun e w' => ∃ aa na ca ab nb cb, e = .returned (.tuple #[.agg (stC (.slice aa na ca) (spA lineS 1)), .agg (stC (.slice ab nb cb) (spB lineS 1)), .int .i64 0]) ∧ RSE spE (.slice ab nb cb) (spB lineS 1).pts w' ∧ Below w.heap.size w w' :=
 (P_Split_ok v lineS 1 w rs ln1 (by omega) (by decide)).mono fun e w' ⟨va, vb, h1, h2, h3, h4⟩ => by
  obtain ⟨aa, ca, rfl, _⟩ := h2.len
  obtain ⟨ab, cb, rfl, _⟩ := h3.len
  exact ⟨_, _, _, _, _, _, h1, h3.rs, h4⟩
def lnK : List TA := (paintS lineS []).1
theorem lnP : paintS lineS [] = (lnK, 0) := Prod.ext rfl ln10
def lnY : List UInt8 := bytesL lineS
theorem lnY_len : lnY.length ≤ 100000000 := by
 have e : bytesL lineS = bytesF lineS := by unfold bytesL; rw [ln1]; rfl
 show (bytesL lineS).length ≤ _
 rw [e, bytesF_len]
 decide
theorem ln_read (w : World) : Calls Tryz.prog 34 #[.string (ofL lnY)] w fun e w' => ∃ a n c, e = .returned (.tuple #[.agg (stC (.slice a n c) lineS), .int .i64 0]) ∧ RSE spE (.slice a n c) lineS.pts w' ∧ Below w.heap.size w w' :=
 (P_ReadS lnY lineS 0 w lnY_len ln9).mono fun e w' ⟨v, h1, h2, h3⟩ => by
  obtain ⟨a, c, rfl, _⟩ := h2.len
  exact ⟨_, _, _, h1, h2, h3⟩
theorem ln_none (w : World) : Calls Tryz.prog 34 #[.string { data := #[] }] w fun e w' => ∃ a n c, e = .returned (.tuple #[.agg (stC (.slice a n c) zSt), .int .i64 10]) ∧ Below w.heap.size w w' :=
 (P_ReadS [] zSt 10 w (by simp) ln8).mono fun e w' ⟨v, h1, h2, h3⟩ => by
  obtain ⟨a, c, rfl, _⟩ := h2.len
  exact ⟨_, _, _, h1, h3⟩
theorem ln_len : lineS.pts.length ≤ 17592186044416 := by decide
theorem ln_lenB : (spB lineS 1).pts.length ≤ 17592186044416 := by decide
theorem lnK_len : lnK.length ≤ maxLen := by
 have := paint_valid (s := lineS) lineS_col (ls := []) TokL.nil
 have := (validL_iff.1 this.1).1
 unfold lnK maxLen
 omega
/-! ### Rectangles compared -/
theorem equalIn_rcZ (d : Nat) (a b : Rc) (w : World) : (Op.equalIn (d + 2) 38 (.agg (rcA a)) (.agg (rcA b))).run Tryz.prog w = .ok (decide (a = b)) w := by
 obtain ⟨x, y, z, u⟩ := a
 obtain ⟨x', y', z', u'⟩ := b
 have h : (Op.equalIn (d + 2) 38 (.agg #[.int .i64 x, .int .i64 y, .int .i64 z, .int .i64 u]) (.agg #[.int .i64 x', .int .i64 y', .int .i64 z', .int .i64 u'])).run Tryz.prog w = .ok (x == x' && (y == y' && (z == z' && u == u'))) w := by
  by_cases h1 : x = x' <;> by_cases h2 : y = y' <;> by_cases h3 : z = z' <;> by_cases h4 : u = u' <;> simp [go_sem, h1, h2, h3, h4]
 refine h.trans ?_
 congr 1
 rw [Bool.eq_iff_iff]
 simp
theorem eql_rcZ (a b : Rc) (w : World) : (binOp .eql 38 (.agg (rcA a)) (.agg (rcA b))).run Tryz.prog w = .ok (.bool (decide (a = b))) w := by
 have h := run_eql_struct (P := Tryz.prog) w 38 (rcA a) (rcA b)
 rw [h, equalIn_rcZ 9998 a b w]; rfl
theorem quiet_eqlRc {o : Oper} {a : Act} {C : World → Prop} {K : Act → Prop} {p q : Operand} {t2 : TypeId} (h : o.op = .binOp .eql 38 p q t2) (x y : Rc) (hx : a.eval p = .agg (rcA x)) (hy : a.eval q = .agg (rcA y)) (b : Bool) (hb : decide (x = y) = b) (hk : K (a.put o.dst (.bool b))) : o.quiet Tryz.prog a C K :=
 ⟨_, fun w hw => by
  have hg : (eqGuard .eql 38 p q (.agg (rcA x)) (.agg (rcA y))).run Tryz.prog w = .ok () w := run_eqGuard_agg w _ 38 p q _ _ (by kernel_rfl)
  unfold Oper.quietAt execOp
  simp only [h, hx, hy, hg, eql_rcZ, hb, Sem.run_bind, Sem.run_pure, Result.andThen_ok]
  exact ⟨rfl, rfl⟩, hk⟩
def anyN : NSpec := ⟨Option Addr × Nat, ⟨(none, 0)⟩, fun p => .slice p.1 0 p.2, fun _ _ => True, fun _ _ _ _ h => h⟩
def lineN : NSpec := ⟨Nat, ⟨0⟩, fun b => .agg (stC (.slice (some ⟨b, 0, none⟩) 3 3) lineS), fun b w => RSE spE (.slice (some ⟨b, 0, none⟩) 3 3) lineS.pts w, fun _ _ _ hb h => h.below hb⟩
set_option maxHeartbeats 4000000 in
theorem sanity14 (w : World) (lm : LimAt w) : Calls Tryz.prog 13 #[] w fun e w' => e = .returned (.bool true) ∧ Below w.heap.size w w' := by
 have B := Below.refl w.heap.size w
 have q30 : ((spB lineS 1).pha == 30) = true := by rw [ln3]; rfl
 obtain ⟨⟨pr, pg, pb, pa⟩, hpx⟩ : ∃ p, getL lnK 0 0 = p := ⟨_, rfl⟩
 have hpa : pa > 0 := by have := ln11; rw [show (paintS lineS []).1 = lnK from rfl, hpx] at this; exact this
 have HPX := Lib.hid hpx
 clear hpx
 have qa : decide (pa > 0) = true := decide_eq_true hpa
 have qa' : decide (0 < pa) = true := decide_eq_true hpa
 have GETC : Hid (∀ v w, RS v lnK w → Calls Tryz.prog 31 #[.agg #[v], .int .i64 0, .int .i64 0] w fun e w' => e = .returned (.agg #[.int .u8 pr, .int .u8 pg, .int .u8 pb, .int .u8 pa]) ∧ Below w.heap.size w w') := Lib.hid fun v w h => by
  have := P_GetR v lnK 0 0 w h lnK_len (wf_mk (by omega) (by omega)) (wf_mk (by omega) (by omega))
  rw [HPX.out] at this
  exact this
 go_enter Tryz.func13, Tryz.ntmps13
 go_upto_region 0 with fail
 refine wp_region_lit ?_
 try simp only [gelS]
 refine chk 1 ?_
 refine wpList_nil ?_
 go_upto_region 1 with fail
 refine wp_region_lit ?_
 try simp only [gelS]
 refine clF (enters_of Tryz.func48 (by kernel_rfl) rfl) (c := L14_line _) (h := ?_)
 rintro e wn ⟨bl, rfl, rl, hbn⟩
 have hsz := B.size
 have hzn := hbn.size
 replace B := B.trans (hbn.mono B.size)
 (try replace lm := lm.below hbn)
 (try replace rl := rl.below hbn)
 refine ⟨_, rfl, ?_⟩
 simp only [putS]
 refine clF (enters_of Tryz.func19 (by kernel_rfl) rfl) (c := P_Dabs14 _ lineS wantD _ rl ln_len ln2) (h := ?_)
 rintro e wn ⟨a1, c1, rfl, od, hbn⟩
 have hsz := B.size
 have hzn := hbn.size
 replace B := B.trans (hbn.mono B.size)
 (try replace lm := lm.below hbn)
 (try replace rl := rl.below hbn)
 have rd := od.rs
 clear od rl
 refine ⟨_, rfl, ?_⟩
 simp only [putS]
 refine chk 1 ?_
 refine wpList_nil ?_
 go_upto_region 2 with fail
 refine wp_region_lit ?_
 try simp only [gelS]
 (refine wpList_val rfl (.agg #[.int .i64 10, .int .i64 0, .int .i64 16]) (by first | rfl | kernel_rfl | simp [go_sem, Act.eval]) ?_; simp only [putS])
 (refine wpList_val rfl (.agg #[.int .i64 50, .int .i64 0, .int .i64 16]) (by first | rfl | kernel_rfl | simp [go_sem, Act.eval]) ?_; simp only [putS])
 (refine wpList_val rfl (.agg #[.int .i64 90, .int .i64 0, .int .i64 16]) (by first | rfl | kernel_rfl | simp [go_sem, Act.eval]) ?_; simp only [putS])
 (refine wpList_bsnZ (E := dbE) (by first | rfl | simp [Region.wanted, yielded]) 3 _ rfl wantD rfl (by simp only [Act.eval, evlS]; rfl) (by omega) (by omega) (alK B ?_); clear B; intro b_wr wn hle hge wr hbn hsz hln B; (try have hlt := lm.lt); (try replace lm := lm.below (hbn.mono hle)); (try have hlt := rd.lt); (try replace rd := rd.below (hbn.mono hle)); simp only [putS])
 refine chk 1 ?_
 refine wpList_nil ?_
 go_upto_region 3 with fail
 refine wp_region_lit ?_
 try simp only [gelS]
 refine clF (enters_of Tryz.func48 (by kernel_rfl) rfl) (c := L14_line _) (h := ?_)
 rintro e wn ⟨bl, rfl, rl, hbn⟩
 have hsz := B.size
 have hzn := hbn.size
 replace B := B.trans (hbn.mono B.size)
 (try replace lm := lm.below hbn)
 (try replace rd := rd.below hbn)
 (try replace wr := wr.below hbn)
 (try replace rl := rl.below hbn)
 refine ⟨_, rfl, ?_⟩
 simp only [putS]
 refine clF (enters_of Tryz.func26 (by kernel_rfl) rfl) (c := ln_split _ _ rl) (h := ?_)
 rintro e wn ⟨aa, na, ca, ab, nb, cb, rfl, rb, hbn⟩
 have hsz := B.size
 have hzn := hbn.size
 replace B := B.trans (hbn.mono B.size)
 (try replace lm := lm.below hbn)
 (try replace rd := rd.below hbn)
 (try replace wr := wr.below hbn)
 (try replace rl := rl.below hbn)
 clear rl
 refine ⟨_, rfl, ?_⟩
 simp only [putS]
 refine chk 4 ?_
 obtain ⟨wK, hK⟩ : ∃ z, z = wn := ⟨_, rfl⟩
 subst hK
 have BG := B
 have hwsK := BG.size
 have B := Below.refl wK.heap.size wK
 have H_lm := Lib.hid lm
 have H_rd := Lib.hid rd
 have H_wr := Lib.hid wr
 have H_rb := Lib.hid rb
 try simp only [gelS]
 (refine wpList_allocBk (t := 30) rfl _ (run_alloc_St _ _ rfl) (alK B ?_); clear B; intro b_r3 wn hle hge r3 hbn hsz hln B; (try have hlt := lm.lt); (try replace lm := lm.below (hbn.mono hle)); (try have hlt := rd.lt); (try replace rd := rd.below (hbn.mono hle)); (try have hlt := wr.lt); (try replace wr := wr.below (hbn.mono hle)); (try have hlt := rb.lt); (try replace rb := rb.below (hbn.mono hle)); simp only [putS])
 (have _ := r3.lt; refine wpList_allocBk (t := 30) rfl _ (run_alloc_St _ _ rfl) (alK B ?_); clear B; intro b_r4 wn hle hge r4 hbn hsz hln B; (try have hlt := lm.lt); (try replace lm := lm.below (hbn.mono hle)); (try have hlt := rd.lt); (try replace rd := rd.below (hbn.mono hle)); (try have hlt := wr.lt); (try replace wr := wr.below (hbn.mono hle)); (try have hlt := rb.lt); (try replace rb := rb.below (hbn.mono hle)); (try have hlt := r3.lt); (try replace r3 := r3.below (hbn.mono hle)); simp only [putS])
 (refine wpList_storeB (t := 30) rfl _ _ rfl _ rfl _ rfl r3 (by kernel_rfl) rfl (by simp [stC, Value.oneCell']) (stK B (by omega) ?_); clear r3 B; intro wn r3 hcn hsz hzn B; (try replace r4 := r4.of_eq (hcn.block _ r4.lt (by omega))); simp only [putS])
 (refine wpList_storeB (t := 30) rfl _ _ rfl _ rfl _ rfl r4 (by kernel_rfl) rfl (by simp [stC, Value.oneCell']) (stK B (by omega) ?_); clear r4 B; intro wn r4 hcn hsz hzn B; (try replace r3 := r3.of_eq (hcn.block _ r3.lt (by omega))); simp only [putS])
 refine chk 1 ?_
 refine wpList_nil ?_
 clear lm
 clear rd
 clear wr
 clear rb
 have lm := by first | exact H_lm.out.below B | exact H_lm.out.of_eq (B.block _ H_lm.out.lt)
 have rd := by first | exact H_rd.out.below B | exact H_rd.out.of_eq (B.block _ H_rd.out.lt)
 have wr := by first | exact H_wr.out.below B | exact H_wr.out.of_eq (B.block _ H_wr.out.lt)
 have rb := by first | exact H_rb.out.below B | exact H_rb.out.of_eq (B.block _ H_rb.out.lt)
 clear H_lm
 clear H_rd
 clear H_wr
 clear H_rb
 have B0 := BG.trans (B.mono hwsK)
 clear B BG hwsK
 have B := B0
 clear B0
 clear r3
 go_upto_region 4 with fail
 refine wp_region_lit ?_
 try simp only [gelS]
 (refine wpList_val rfl (.agg #[.slice none 0 0]) (by first | rfl | kernel_rfl | simp [go_sem, Act.eval]) ?_; simp only [putS])
 refine clF (enters_of Tryz.func48 (by kernel_rfl) rfl) (c := L14_line _) (h := ?_)
 rintro e wn ⟨bl, rfl, rl, hbn⟩
 have hsz := B.size
 have hzn := hbn.size
 replace B := B.trans (hbn.mono B.size)
 (try replace lm := lm.below hbn)
 (try replace rd := rd.below hbn)
 (try replace wr := wr.below hbn)
 (try replace rb := rb.below hbn)
 (try replace r4 := r4.below hbn)
 (try replace rl := rl.below hbn)
 refine ⟨_, rfl, ?_⟩
 simp only [putS]
 refine clF (enters_of Tryz.func30 (by kernel_rfl) rfl) (c := P_PaintA _ _ lineS [] lnK 0 _ lm (RS.nil _) TokL.nil (Nat.zero_le _) rl ln_len lineS_col lnP) (h := ?_)
 rintro e wn ⟨ap, cp, rfl, rk, hbn⟩
 have hsz := B.size
 have hzn := hbn.size
 replace B := B.trans (hbn.mono B.size)
 (try replace lm := lm.below hbn)
 (try replace rd := rd.below hbn)
 (try replace wr := wr.below hbn)
 (try replace rb := rb.below hbn)
 (try replace r4 := r4.below hbn)
 (try replace rl := rl.below hbn)
 clear rl
 refine ⟨_, rfl, ?_⟩
 simp only [putS]
 refine chk 3 ?_
 obtain ⟨wK, hK⟩ : ∃ z, z = wn := ⟨_, rfl⟩
 subst hK
 have BG := B
 have hwsK := BG.size
 have B := Below.refl wK.heap.size wK
 have H_lm := Lib.hid lm
 have H_rd := Lib.hid rd
 have H_wr := Lib.hid wr
 have H_rb := Lib.hid rb
 have H_r4 := Lib.hid r4
 have H_rk := Lib.hid rk
 try simp only [gelS]
 (refine wpList_allocBk (t := 64) rfl _ (run_alloc_R _ _ rfl) (alK B ?_); clear B; intro b_r6 wn hle hge r6 hbn hsz hln B; (try have hlt := lm.lt); (try replace lm := lm.below (hbn.mono hle)); (try have hlt := rd.lt); (try replace rd := rd.below (hbn.mono hle)); (try have hlt := wr.lt); (try replace wr := wr.below (hbn.mono hle)); (try have hlt := rb.lt); (try replace rb := rb.below (hbn.mono hle)); (try have hlt := r4.lt); (try replace r4 := r4.below (hbn.mono hle)); (try have hlt := rk.lt); (try replace rk := rk.below (hbn.mono hle)); simp only [putS])
 (refine wpList_storeB (t := 64) rfl _ _ rfl _ rfl _ rfl r6 (by kernel_rfl) rfl (by simp [Value.oneCell']) (stK B (by omega) ?_); clear r6 B; intro wn r6 hcn hsz hzn B; simp only [putS])
 refine chk 1 ?_
 refine wpList_nil ?_
 clear lm
 clear rd
 clear wr
 clear rb
 clear r4
 clear rk
 have lm := by first | exact H_lm.out.below B | exact H_lm.out.of_eq (B.block _ H_lm.out.lt)
 have rd := by first | exact H_rd.out.below B | exact H_rd.out.of_eq (B.block _ H_rd.out.lt)
 have wr := by first | exact H_wr.out.below B | exact H_wr.out.of_eq (B.block _ H_wr.out.lt)
 have rb := by first | exact H_rb.out.below B | exact H_rb.out.of_eq (B.block _ H_rb.out.lt)
 have r4 := by first | exact H_r4.out.below B | exact H_r4.out.of_eq (B.block _ H_r4.out.lt)
 have rk := by first | exact H_rk.out.below B | exact H_rk.out.of_eq (B.block _ H_rk.out.lt)
 clear H_lm
 clear H_rd
 clear H_wr
 clear H_rb
 clear H_r4
 clear H_rk
 have B0 := BG.trans (B.mono hwsK)
 clear B BG hwsK
 have B := B0
 clear B0
 go_upto_region 5 with fail
 refine wp_region_lit ?_
 try simp only [gelS]
 refine clF (enters_of Tryz.func48 (by kernel_rfl) rfl) (c := L14_line _) (h := ?_)
 rintro e wn ⟨bl, rfl, rl, hbn⟩
 have hsz := B.size
 have hzn := hbn.size
 replace B := B.trans (hbn.mono B.size)
 (try replace lm := lm.below hbn)
 (try replace rd := rd.below hbn)
 (try replace wr := wr.below hbn)
 (try replace rb := rb.below hbn)
 (try replace r4 := r4.below hbn)
 (try replace rk := rk.below hbn)
 (try replace r6 := r6.below hbn)
 (try replace rl := rl.below hbn)
 refine ⟨_, rfl, ?_⟩
 simp only [putS]
 refine clF (enters_of Tryz.func33 (by kernel_rfl) rfl) (c := P_BytesS _ lineS lnY _ rl ln_len lineS_col rfl) (h := ?_)
 rintro e wn ⟨rfl, hbn⟩
 have hsz := B.size
 have hzn := hbn.size
 replace B := B.trans (hbn.mono B.size)
 (try replace lm := lm.below hbn)
 (try replace rd := rd.below hbn)
 (try replace wr := wr.below hbn)
 (try replace rb := rb.below hbn)
 (try replace r4 := r4.below hbn)
 (try replace rk := rk.below hbn)
 (try replace r6 := r6.below hbn)
 (try replace rl := rl.below hbn)
 clear rl
 refine ⟨_, rfl, ?_⟩
 simp only [putS]
 refine clF (enters_of Tryz.func34 (by kernel_rfl) rfl) (c := ln_read _) (h := ?_)
 rintro e wn ⟨a8, n8, c8, rfl, r8s, hbn⟩
 have hsz := B.size
 have hzn := hbn.size
 replace B := B.trans (hbn.mono B.size)
 (try replace lm := lm.below hbn)
 (try replace rd := rd.below hbn)
 (try replace wr := wr.below hbn)
 (try replace rb := rb.below hbn)
 (try replace r4 := r4.below hbn)
 (try replace rk := rk.below hbn)
 (try replace r6 := r6.below hbn)
 refine ⟨_, rfl, ?_⟩
 simp only [putS]
 refine chk 3 ?_
 obtain ⟨wK, hK⟩ : ∃ z, z = wn := ⟨_, rfl⟩
 subst hK
 have BG := B
 have hwsK := BG.size
 have B := Below.refl wK.heap.size wK
 have H_lm := Lib.hid lm
 have H_rd := Lib.hid rd
 have H_wr := Lib.hid wr
 have H_rb := Lib.hid rb
 have H_r4 := Lib.hid r4
 have H_rk := Lib.hid rk
 have H_r6 := Lib.hid r6
 have H_r8s := Lib.hid r8s
 try simp only [gelS]
 (refine wpList_allocBk (t := 30) rfl _ (run_alloc_St _ _ rfl) (alK B ?_); clear B; intro b_r8 wn hle hge r8 hbn hsz hln B; (try have hlt := lm.lt); (try replace lm := lm.below (hbn.mono hle)); (try have hlt := rd.lt); (try replace rd := rd.below (hbn.mono hle)); (try have hlt := wr.lt); (try replace wr := wr.below (hbn.mono hle)); (try have hlt := rb.lt); (try replace rb := rb.below (hbn.mono hle)); (try have hlt := r4.lt); (try replace r4 := r4.below (hbn.mono hle)); (try have hlt := rk.lt); (try replace rk := rk.below (hbn.mono hle)); (try have hlt := r6.lt); (try replace r6 := r6.below (hbn.mono hle)); (try have hlt := r8s.lt); (try replace r8s := r8s.below (hbn.mono hle)); simp only [putS])
 (refine wpList_storeB (t := 30) rfl _ _ rfl _ rfl _ rfl r8 (by kernel_rfl) rfl (by simp [stC, Value.oneCell']) (stK B (by omega) ?_); clear r8 B; intro wn r8 hcn hsz hzn B; simp only [putS])
 refine chk 1 ?_
 refine wpList_nil ?_
 clear lm
 clear rd
 clear wr
 clear rb
 clear r4
 clear rk
 clear r6
 clear r8s
 have lm := by first | exact H_lm.out.below B | exact H_lm.out.of_eq (B.block _ H_lm.out.lt)
 have rd := by first | exact H_rd.out.below B | exact H_rd.out.of_eq (B.block _ H_rd.out.lt)
 have wr := by first | exact H_wr.out.below B | exact H_wr.out.of_eq (B.block _ H_wr.out.lt)
 have rb := by first | exact H_rb.out.below B | exact H_rb.out.of_eq (B.block _ H_rb.out.lt)
 have r4 := by first | exact H_r4.out.below B | exact H_r4.out.of_eq (B.block _ H_r4.out.lt)
 have rk := by first | exact H_rk.out.below B | exact H_rk.out.of_eq (B.block _ H_rk.out.lt)
 have r6 := by first | exact H_r6.out.below B | exact H_r6.out.of_eq (B.block _ H_r6.out.lt)
 have r8s := by first | exact H_r8s.out.below B | exact H_r8s.out.of_eq (B.block _ H_r8s.out.lt)
 clear H_lm
 clear H_rd
 clear H_wr
 clear H_rb
 clear H_r4
 clear H_rk
 clear H_r6
 clear H_r8s
 have B0 := BG.trans (B.mono hwsK)
 clear B BG hwsK
 have B := B0
 clear B0
 go_upto_region 6 with fail
 refine wp_region_lit ?_
 try simp only [gelS]
 refine clF (enters_of Tryz.func34 (by kernel_rfl) rfl) (c := ln_none _) (h := ?_)
 rintro e wn ⟨a10, n10, c10, rfl, hbn⟩
 have hsz := B.size
 have hzn := hbn.size
 replace B := B.trans (hbn.mono B.size)
 (try replace lm := lm.below hbn)
 (try replace rd := rd.below hbn)
 (try replace wr := wr.below hbn)
 (try replace rb := rb.below hbn)
 (try replace r4 := r4.below hbn)
 (try replace rk := rk.below hbn)
 (try replace r6 := r6.below hbn)
 (try replace r8s := r8s.below hbn)
 (try replace r8 := r8.below hbn)
 refine ⟨_, rfl, ?_⟩
 simp only [putS]
 refine chk 3 ?_
 obtain ⟨wK, hK⟩ : ∃ z, z = wn := ⟨_, rfl⟩
 subst hK
 have BG := B
 have hwsK := BG.size
 have B := Below.refl wK.heap.size wK
 have H_lm := Lib.hid lm
 have H_rd := Lib.hid rd
 have H_wr := Lib.hid wr
 have H_rb := Lib.hid rb
 have H_r4 := Lib.hid r4
 have H_rk := Lib.hid rk
 have H_r6 := Lib.hid r6
 have H_r8s := Lib.hid r8s
 have H_r8 := Lib.hid r8
 try simp only [gelS]
 (refine wpList_allocBk (t := 30) rfl _ (run_alloc_St _ _ rfl) (alK B ?_); clear B; intro b_r10 wn hle hge r10 hbn hsz hln B; (try have hlt := lm.lt); (try replace lm := lm.below (hbn.mono hle)); (try have hlt := rd.lt); (try replace rd := rd.below (hbn.mono hle)); (try have hlt := wr.lt); (try replace wr := wr.below (hbn.mono hle)); (try have hlt := rb.lt); (try replace rb := rb.below (hbn.mono hle)); (try have hlt := r4.lt); (try replace r4 := r4.below (hbn.mono hle)); (try have hlt := rk.lt); (try replace rk := rk.below (hbn.mono hle)); (try have hlt := r6.lt); (try replace r6 := r6.below (hbn.mono hle)); (try have hlt := r8s.lt); (try replace r8s := r8s.below (hbn.mono hle)); (try have hlt := r8.lt); (try replace r8 := r8.below (hbn.mono hle)); simp only [putS])
 (refine wpList_storeB (t := 30) rfl _ _ rfl _ rfl _ rfl r10 (by kernel_rfl) rfl (by simp [stC, Value.oneCell']) (stK B (by omega) ?_); clear r10 B; intro wn r10 hcn hsz hzn B; simp only [putS])
 refine chk 1 ?_
 refine wpList_nil ?_
 clear lm
 clear rd
 clear wr
 clear rb
 clear r4
 clear rk
 clear r6
 clear r8s
 clear r8
 have lm := by first | exact H_lm.out.below B | exact H_lm.out.of_eq (B.block _ H_lm.out.lt)
 have rd := by first | exact H_rd.out.below B | exact H_rd.out.of_eq (B.block _ H_rd.out.lt)
 have wr := by first | exact H_wr.out.below B | exact H_wr.out.of_eq (B.block _ H_wr.out.lt)
 have rb := by first | exact H_rb.out.below B | exact H_rb.out.of_eq (B.block _ H_rb.out.lt)
 have r4 := by first | exact H_r4.out.below B | exact H_r4.out.of_eq (B.block _ H_r4.out.lt)
 have rk := by first | exact H_rk.out.below B | exact H_rk.out.of_eq (B.block _ H_rk.out.lt)
 have r6 := by first | exact H_r6.out.below B | exact H_r6.out.of_eq (B.block _ H_r6.out.lt)
 have r8s := by first | exact H_r8s.out.below B | exact H_r8s.out.of_eq (B.block _ H_r8s.out.lt)
 have r8 := by first | exact H_r8.out.below B | exact H_r8.out.of_eq (B.block _ H_r8.out.lt)
 clear H_lm
 clear H_rd
 clear H_wr
 clear H_rb
 clear H_r4
 clear H_rk
 clear H_r6
 clear H_r8s
 clear H_r8
 have B0 := BG.trans (B.mono hwsK)
 clear B BG hwsK
 have B := B0
 clear B0
 clear r10
 go_upto_region 7 with fail
 try simp only [gelS]
 try have lx_lm := lm.lt
 try have lx_rd := rd.lt
 try have lx_wr := wr.lt
 try have lx_rb := rb.lt
 try have lx_r4 := r4.lt
 try have lx_rk := rk.lt
 try have lx_r6 := r6.lt
 try have lx_r8s := r8s.lt
 try have lx_r8 := r8.lt
 refine wp_region_RL 62 [(2, detS ?v1_2), (14, anyN), (15, detS ?v1_15), (20, detS ?v1_20), (29, detS ?v1_29), (39, lineN), (40, detS ?v1_40), (47, lineN), (48, detS ?v1_48), (52, detS ?v1_52), (56, lineN), (57, detS ?v1_57)] (by kernel_rfl) (by kernel_rfl) (by kernel_rfl) ?_
 rotate_left 8
 simp only [takS, Nat.reduceAdd]
 refine crq 2 ?_
 repeat (first | go_big_quiet_skip | (go_big_quiet_want; first | ((first | refine quiet_eqlRc rfl ⟨-1, -1, 7, 2⟩ ⟨-1, -1, 7, 2⟩ rfl rfl true (by decide) ?_ | refine qB ?_ | refine qC ?_); simp only [putS]; go_big_quiet_on) | (go_big_quiet_op; go_big_quiet_on)))
 refine wpQuiet_nil ?_
 refine wpRL_callB (by rfl) (by first | rfl | simp [Region.wanted, yielded]) ?_ ?_
 ·intro wn hbn hE Kx hKx
  have hsz := B.size
  have hzn := hbn.size
  replace B := B.trans (hbn.mono B.size)
  (try replace lm := lm.below hbn)
  (try replace rd := rd.below hbn)
  (try replace wr := wr.below hbn)
  (try replace rb := rb.below hbn)
  (try replace r4 := r4.below hbn)
  (try replace rk := rk.below hbn)
  (try replace r6 := r6.below hbn)
  (try replace r8s := r8s.below hbn)
  (try replace r8 := r8.below hbn)
  refine wp_callF rfl (enters_of Tryz.func18 (by kernel_rfl) rfl) (by simp only [Act.eval, evlS]; rfl) ?_
  refine (R_SameDabs _ _ wantD wantD true wn rd wr.rs (by decide) (by decide) (by decide)).mono ?_
  rintro e wm ⟨rfl, hbm⟩
  refine ⟨_, rfl, ?_⟩
  have hz := hKx () wm trivial hbm
  dsimp only [detS] at hz
  exact hz
 rintro ⟨⟩
 dsimp only [detS]
 simp only [putS]
 refine crq 11 ?_
 repeat (first | go_big_quiet_skip | (go_big_quiet_want; first | ((first | refine quiet_eqlRc rfl ⟨-1, -1, 7, 2⟩ ⟨-1, -1, 7, 2⟩ rfl rfl true (by decide) ?_ | refine qB ?_ | refine qC ?_); simp only [putS]; go_big_quiet_on) | (go_big_quiet_op; go_big_quiet_on)))
 refine wpQuiet_nil ?_
 refine wpRL_callB (by rfl) ?hw1_14 ?_ ?_
 case hw1_14 => kernel_rfl
 ·intro wn hbn hE Kx hKx
  have hsz := B.size
  have hzn := hbn.size
  replace B := B.trans (hbn.mono B.size)
  (try replace lm := lm.below hbn)
  (try replace rb := rb.below hbn)
  (try replace r4 := r4.below hbn)
  (try replace rk := rk.below hbn)
  (try replace r6 := r6.below hbn)
  (try replace r8s := r8s.below hbn)
  (try replace r8 := r8.below hbn)
  refine wp_callF rfl (enters_of Tryz.func19 (by kernel_rfl) rfl) (by simp only [Act.eval, evlS]; rfl) ?_
  refine (P_Dabs14 _ (spB lineS 1) [] wn rb ln_lenB ln4).mono ?_
  rintro e wm ⟨a', c', rfl, _, hbm⟩
  exact ⟨_, rfl, hKx (a', c') wm trivial hbm⟩
 rintro ⟨a54, c54⟩
 dsimp only [detS, anyN]
 simp only [putS]
 refine wpRL_callB (by rfl) ?hw1_15 ?_ ?_
 case hw1_15 => kernel_rfl
 ·intro wn hbn hE Kx hKx
  have hsz := B.size
  have hzn := hbn.size
  replace B := B.trans (hbn.mono B.size)
  (try replace lm := lm.below hbn)
  (try replace r4 := r4.below hbn)
  (try replace rk := rk.below hbn)
  (try replace r6 := r6.below hbn)
  (try replace r8s := r8s.below hbn)
  (try replace r8 := r8.below hbn)
  refine wp_lenS rfl Tryz.underlying35 rfl ?_
  exact hKx () _ trivial (Below.refl _ _)
 rintro ⟨⟩
 dsimp only [detS]
 simp only [putS]
 refine crq 4 ?_
 repeat (first | go_big_quiet_skip | (go_big_quiet_want; first | ((first | refine quiet_eqlRc rfl ⟨-1, -1, 7, 2⟩ ⟨-1, -1, 7, 2⟩ rfl rfl true (by decide) ?_ | refine qB ?_ | refine qC ?_); simp only [putS]; go_big_quiet_on) | (go_big_quiet_op; go_big_quiet_on)))
 refine wpQuiet_nil ?_
 refine wpRL_callB (by rfl) ?hw1_20 ?_ ?_
 case hw1_20 => kernel_rfl
 ·intro wn hbn hE Kx hKx
  have hsz := B.size
  have hzn := hbn.size
  replace B := B.trans (hbn.mono B.size)
  (try replace lm := lm.below hbn)
  (try replace r4 := r4.below hbn)
  (try replace rk := rk.below hbn)
  (try replace r6 := r6.below hbn)
  (try replace r8s := r8s.below hbn)
  (try replace r8 := r8.below hbn)
  refine wp_callF rfl (enters_of Tryz.func24 (by kernel_rfl) rfl) (by simp only [Act.eval, evlS]; rfl) ?_
  refine (P_Cover ⟨8, 8, 8⟩ 0 0 191 wn (by simp only; omega) (by simp only; omega) (by simp only; omega) ln5).mono ?_
  rintro e wm ⟨rfl, hbm⟩
  refine ⟨_, rfl, ?_⟩
  have hz := hKx () wm trivial hbm
  dsimp only [detS] at hz
  exact hz
 rintro ⟨⟩
 dsimp only [detS]
 simp only [putS]
 refine crq 8 ?_
 repeat (first | go_big_quiet_skip | (go_big_quiet_want; first | ((first | refine quiet_eqlRc rfl ⟨-1, -1, 7, 2⟩ ⟨-1, -1, 7, 2⟩ rfl rfl true (by decide) ?_ | refine qB ?_ | refine qC ?_); simp only [putS]; go_big_quiet_on) | (go_big_quiet_op; go_big_quiet_on)))
 refine wpQuiet_nil ?_
 refine wpRL_callB (by rfl) ?hw1_29 ?_ ?_
 case hw1_29 => kernel_rfl
 ·intro wn hbn hE Kx hKx
  have hsz := B.size
  have hzn := hbn.size
  replace B := B.trans (hbn.mono B.size)
  (try replace lm := lm.below hbn)
  (try replace r4 := r4.below hbn)
  (try replace rk := rk.below hbn)
  (try replace r8s := r8s.below hbn)
  (try replace r8 := r8.below hbn)
  refine wp_callF rfl (enters_of Tryz.func31 (by kernel_rfl) rfl) (by simp only [Act.eval, evlS]; rfl) ?_
  refine (GETC.out _ wn rk).mono ?_
  rintro e wm ⟨rfl, hbm⟩
  refine ⟨_, rfl, ?_⟩
  have hz := hKx () wm trivial hbm
  dsimp only [detS] at hz
  exact hz
 rintro ⟨⟩
 dsimp only [detS]
 simp only [putS]
 refine crq 9 ?_
 repeat (first | go_big_quiet_skip | (go_big_quiet_want; first | ((first | refine quiet_eqlRc rfl ⟨-1, -1, 7, 2⟩ ⟨-1, -1, 7, 2⟩ rfl rfl true (by decide) ?_ | refine qB ?_ | refine qC ?_); simp only [putS]; go_big_quiet_on) | (go_big_quiet_op; go_big_quiet_on)))
 refine wpQuiet_nil ?_
 refine wpRL_callB (by rfl) ?hw1_39 ?_ ?_
 case hw1_39 => kernel_rfl
 ·intro wn hbn hE Kx hKx
  have hsz := B.size
  have hzn := hbn.size
  replace B := B.trans (hbn.mono B.size)
  (try replace lm := lm.below hbn)
  (try replace r8s := r8s.below hbn)
  refine wp_callF rfl (enters_of Tryz.func48 (by kernel_rfl) rfl) (by simp only [Act.eval, evlS]; rfl) ?_
  refine (L14_line wn).mono ?_
  rintro e wm ⟨b', rfl, hr, hbm⟩
  exact ⟨_, rfl, hKx b' wm hr hbm⟩
 rintro bl79
 dsimp only [detS, lineN]
 simp only [putS]
 refine wpRL_callB (by rfl) ?hw1_40 ?_ ?_
 case hw1_40 => kernel_rfl
 ·intro wn hbn hE Kx hKx
  have hsz := B.size
  have hzn := hbn.size
  replace B := B.trans (hbn.mono B.size)
  (try replace lm := lm.below hbn)
  (try replace r8s := r8s.below hbn)
  have n79 := hE 39 (by kernel_rfl)
  change RSE _ _ _ _ at n79
  refine wp_callF rfl (enters_of Tryz.func28 (by kernel_rfl) rfl) (by simp only [Act.eval, evlS]; rfl) ?_
  refine (R_Same14 _ _ lineS lineS true wn r8s n79 (by decide) (by decide) (by decide)).mono ?_
  rintro e wm ⟨rfl, hbm⟩
  refine ⟨_, rfl, ?_⟩
  have hz := hKx () wm trivial hbm
  dsimp only [detS] at hz
  exact hz
 rintro ⟨⟩
 dsimp only [detS]
 simp only [putS]
 refine crq 6 ?_
 repeat (first | go_big_quiet_skip | (go_big_quiet_want; first | ((first | refine quiet_eqlRc rfl ⟨-1, -1, 7, 2⟩ ⟨-1, -1, 7, 2⟩ rfl rfl true (by decide) ?_ | refine qB ?_ | refine qC ?_); simp only [putS]; go_big_quiet_on) | (go_big_quiet_op; go_big_quiet_on)))
 refine wpQuiet_nil ?_
 refine wpRL_callB (by rfl) ?hw1_47 ?_ ?_
 case hw1_47 => kernel_rfl
 ·intro wn hbn hE Kx hKx
  have hsz := B.size
  have hzn := hbn.size
  replace B := B.trans (hbn.mono B.size)
  (try replace lm := lm.below hbn)
  refine wp_callF rfl (enters_of Tryz.func48 (by kernel_rfl) rfl) (by simp only [Act.eval, evlS]; rfl) ?_
  refine (L14_line wn).mono ?_
  rintro e wm ⟨b', rfl, hr, hbm⟩
  exact ⟨_, rfl, hKx b' wm hr hbm⟩
 rintro bl87
 dsimp only [detS, lineN]
 simp only [putS]
 refine wpRL_callB (by rfl) ?hw1_48 ?_ ?_
 case hw1_48 => kernel_rfl
 ·intro wn hbn hE Kx hKx
  have hsz := B.size
  have hzn := hbn.size
  replace B := B.trans (hbn.mono B.size)
  (try replace lm := lm.below hbn)
  have n87 := hE 47 (by kernel_rfl)
  change RSE _ _ _ _ at n87
  refine wp_callF rfl (enters_of Tryz.func16 (by kernel_rfl) rfl) (by simp only [Act.eval, evlS]; rfl) ?_
  refine (P_Valid14 _ lineS true wn n87 ln_len ln1).mono ?_
  rintro e wm ⟨rfl, hbm⟩
  refine ⟨_, rfl, ?_⟩
  have hz := hKx () wm trivial hbm
  dsimp only [detS] at hz
  exact hz
 rintro ⟨⟩
 dsimp only [detS]
 simp only [putS]
 refine crq 3 ?_
 repeat (first | go_big_quiet_skip | (go_big_quiet_want; first | ((first | refine quiet_eqlRc rfl ⟨-1, -1, 7, 2⟩ ⟨-1, -1, 7, 2⟩ rfl rfl true (by decide) ?_ | refine qB ?_ | refine qC ?_); simp only [putS]; go_big_quiet_on) | (go_big_quiet_op; go_big_quiet_on)))
 refine wpQuiet_nil ?_
 refine wpRL_callB (by rfl) ?hw1_52 ?_ ?_
 case hw1_52 => kernel_rfl
 ·intro wn hbn hE Kx hKx
  have hsz := B.size
  have hzn := hbn.size
  replace B := B.trans (hbn.mono B.size)
  (try replace lm := lm.below hbn)
  refine wp_callF rfl (enters_of Tryz.func16 (by kernel_rfl) rfl) (by simp only [Act.eval, evlS]; rfl) ?_
  refine (P_Valid14 (.slice none 0 0) zSt false wn (OwnE.nil (E := spE) 0 wn).rs (by decide) ln7).mono ?_
  rintro e wm ⟨rfl, hbm⟩
  refine ⟨_, rfl, ?_⟩
  have hz := hKx () wm trivial hbm
  dsimp only [detS] at hz
  exact hz
 rintro ⟨⟩
 dsimp only [detS]
 simp only [putS]
 refine crq 3 ?_
 repeat (first | go_big_quiet_skip | (go_big_quiet_want; first | ((first | refine quiet_eqlRc rfl ⟨-1, -1, 7, 2⟩ ⟨-1, -1, 7, 2⟩ rfl rfl true (by decide) ?_ | refine qB ?_ | refine qC ?_); simp only [putS]; go_big_quiet_on) | (go_big_quiet_op; go_big_quiet_on)))
 refine wpQuiet_nil ?_
 refine wpRL_callB (by rfl) ?hw1_56 ?_ ?_
 case hw1_56 => kernel_rfl
 ·intro wn hbn hE Kx hKx
  have hsz := B.size
  have hzn := hbn.size
  replace B := B.trans (hbn.mono B.size)
  (try replace lm := lm.below hbn)
  refine wp_callF rfl (enters_of Tryz.func48 (by kernel_rfl) rfl) (by simp only [Act.eval, evlS]; rfl) ?_
  refine (L14_line wn).mono ?_
  rintro e wm ⟨b', rfl, hr, hbm⟩
  exact ⟨_, rfl, hKx b' wm hr hbm⟩
 rintro bl96
 dsimp only [detS, lineN]
 simp only [putS]
 refine wpRL_callB (by rfl) ?hw1_57 ?_ ?_
 case hw1_57 => kernel_rfl
 ·intro wn hbn hE Kx hKx
  have hsz := B.size
  have hzn := hbn.size
  replace B := B.trans (hbn.mono B.size)
  (try replace lm := lm.below hbn)
  have n96 := hE 56 (by kernel_rfl)
  change RSE _ _ _ _ at n96
  refine wp_callF rfl (enters_of Tryz.func21 (by kernel_rfl) rfl) (by simp only [Act.eval, evlS]; rfl) ?_
  refine (P_Area14 _ lineS ⟨-1, -1, 7, 2⟩ wn lm n96 ln_len ln6).mono ?_
  rintro e wm ⟨rfl, hbm⟩
  refine ⟨_, rfl, ?_⟩
  have hz := hKx () wm trivial hbm
  dsimp only [detS] at hz
  exact hz
 rintro ⟨⟩
 dsimp only [detS]
 simp only [putS]
 refine crq 4 ?_
 repeat (first | go_big_quiet_skip | (go_big_quiet_want; first | ((first | refine quiet_eqlRc rfl ⟨-1, -1, 7, 2⟩ ⟨-1, -1, 7, 2⟩ rfl rfl true (by decide) ?_ | refine qB ?_ | refine qC ?_); simp only [putS]; go_big_quiet_on) | (go_big_quiet_op; go_big_quiet_on)))
 refine wpQuiet_nil ?_
 refine wpRL_nil ?_
 intro wn hbn hE
 have hsz := B.size
 have hzn := hbn.size
 replace B := B.trans (hbn.mono B.size)
 have n79 := hE 39
 change RSE _ _ _ _ at n79
 have n87 := hE 47
 change RSE _ _ _ _ at n87
 have n96 := hE 56
 change RSE _ _ _ _ at n96
 clear hE
 try simp only [List.drop_succ_cons, List.drop_zero]
 refine NoPan.normal ?_
 go_wp2
 go_ret
 exact ⟨rfl, B⟩
end Go.Proofs.YtepelndbbhdofaaGreatDoor
/- How this seat's arguments are opened: slices of integers, rectangles, generated rasters. -/
namespace Go.Proofs.YtepelndbbhdofaaGreatDoor
open Go.ChangeShapes Go.WideShapes Go.ChangeAt Go.RowKit Pl
set_option linter.unusedVariables false
set_option linter.unusedSimpArgs false
set_option maxRecDepth 20000
theorem reach_44 : reachBytes ≤ 140737488351232 := by decide
section
variable {H : Type} {enc : TypeId × Value → H} {w : World} {base : Nat} {spare : Nat → Bool} {held : Bool}
theorem addr_add0 (b off n : Nat) : (Addr.add ⟨b, off, none⟩ n) = ⟨b, off + n, none⟩ := by
 unfold Addr.add; split
 ·rename_i h; subst h; rfl
 ·rfl
theorem trod_ints {fuel : Nat} {cs : List Value} {x : DataW H × List MemPlace} (h : DataW.trod enc Tryz.prog w base spare held fuel 22 cs = some x) (hw : ∀ n ∈ x.1.weights Tryz.prog 22, n ≤ reachBytes) :
  ∃ v L, cs = [v] ∧ RSE inE v L w ∧ L.length ≤ 17592186044416 := by
 have hC : Tryz.prog.cellsOf 3 = 1 := by kernel_rfl
 have hB : Tryz.prog.bytesOf 3 = 8 := by kernel_rfl
 rcases open_ints Tryz.underlying22 Tryz.underlying3 hC h with ⟨rfl, rfl⟩ | ⟨a, len, cap, zs, rfl, _, hl, hcap, hz, rfl, hcell, _⟩
 ·exact ⟨_, [], rfl, RSE.nil w, by simp⟩
 ·have hzl : len ≤ zs.length := by rw [hz]; split <;> omega
  have htl : (zs.take len).length = len := by rw [List.length_take, Nat.min_eq_left hzl]
  refine ⟨_, zs.take len, rfl, ?_, ?_⟩
  ·by_cases h0 : len = 0
   ·subst h0; exact .inr (.inr ⟨a, cap, rfl, by simp⟩)
   ·obtain ⟨b, off, spot⟩ := a
    have c0 := hcell 0 (by omega)
    have hspot : spot = none := by simpa [Addr.add] using World.cell?_spot c0
    subst hspot
    simp only [addr_add0] at hcell c0
    refine .inr (.inl ⟨b, off, cap, by rw [htl], by rw [htl]; exact hl, fun _ => ⟨World.block_lt_of_cell? w _ c0, fun i x hi j hj => ?_⟩⟩)
    obtain rfl : j = 0 := by omega
    have hil : i < len := by rw [← htl]; exact (List.getElem?_eq_some_iff.1 hi).1
    rw [List.getElem?_take_of_lt hil] at hi
    rw [Nat.mul_one, Nat.add_zero, hcell i (by omega), List.getD_eq_getElem?_getD, hi]
    rfl
  ·rw [htl]
   have := hw ((len + (zs.length - len)) * 8) (by simp [DataW.weights, Tryz.underlying22, hB, lits, Nat.min_eq_left hzl])
   have := reach_44
   omega
theorem open_ints1 {r : Reach} {b0 : Nat} {v : Value} {d : DataW H} {p : List MemPlace} (hv : Value.okWide Tryz.prog w r b0 22 v)
  (h : DataW.Trod enc Tryz.prog w base spare held 22 v d p) (hw : ∀ n ∈ d.weights Tryz.prog 22, n ≤ reachBytes) : ∃ L, RSE inE v L w ∧ L.length ≤ 17592186044416 := by
 obtain ⟨a0, len, cap, rfl⟩ := okWide_slice Tryz.underlying22 hv
 obtain ⟨fuel, hf⟩ := h
 obtain ⟨v', L, e, h1, h2⟩ := trod_ints hf hw
 simp [Value.cells] at e
 subst e
 exact ⟨L, h1, h2⟩
end
end Go.Proofs.YtepelndbbhdofaaGreatDoor
/- The door of chapter 14's laws: what the one listed variable gives the walks. -/
namespace Go.Proofs.YtepelndbbhdofaaGreatDoor
open Go.ChangeShapes Go.WideShapes Go.ChangeAt Go.RowKit Pl
set_option linter.unusedVariables false
set_option linter.unusedSimpArgs false
def laidD : List (String × DataW Unit) := [("gouache/stroke.limits", Rows.laid_gouache_stroke_limits)]
theorem door_met (os : Os) (args : Array Value) : laidMetH Tryz.prog laidD ((World.doorLaid Tryz.prog 400 os).forCall (fun _ _ => 0) ⟨#[], args, []⟩).memory :=
 laidMetH_of_parts3 (fuel := 8) (laidMet_of_run' 8 (by kernel_rfl) (by kernel_rfl)) (by kernel_rfl) (by kernel_rfl)
theorem gLimits : Tryz.prog.globalNamed "gouache/stroke.limits" = some 0 := by kernel_rfl
/-- WHAT THE CONDITION GIVES THE WALKS. -/
theorem lim_of_laid {W : World} (h : laidMetH Tryz.prog laidD W) : LimAt W := by
 rw [MakeChecks.laidMetH_plain _ _ _ (by kernel_rfl)] at h
 obtain ⟨ps, ⟨g, t, cs, fuel, p, q, hg, ht, hv, hd, _, _⟩, _⟩ := h
 obtain rfl := Option.some.inj (gLimits.symm.trans hg)
 have hty : (Tryz.prog.globals[0]?).map (·.type) = some 38 := by kernel_rfl
 obtain rfl := Option.some.inj (hty.symm.trans ht)
 have hC : Tryz.prog.cellsOf 3 = 1 := by kernel_rfl
 have hC4 : Tryz.prog.cellsOf 38 = 4 := by kernel_rfl
 obtain ⟨y0, y1, y2, y3, n, hx, hlen, h0, h1, h2, h3⟩ := Joins.trod_struct4 Tryz.underlying38 hd
 obtain ⟨c0, c1, c2, c3, rfl⟩ := Joins.array4 (show cs.size = 4 from by rw [← Array.length_toList, hlen, hC4])
 simp only [hC, List.drop_zero, List.drop_succ_cons, List.take_succ_cons, List.take_zero] at h0 h1 h2 h3
 obtain ⟨a, ea, ya, _⟩ := DataW.trod_int Tryz.underlying3 h0
 obtain ⟨b, eb, yb, _⟩ := DataW.trod_int Tryz.underlying3 h1
 obtain ⟨c, ec, yc, _⟩ := DataW.trod_int Tryz.underlying3 h2
 obtain ⟨e, ee, ye, _⟩ := DataW.trod_int Tryz.underlying3 h3
 subst ya yb yc ye
 simp only [Rows.laid_gouache_stroke_limits, Prod.mk.injEq, DataW.agg.injEq, List.cons.injEq, DataW.lit.injEq, Lit.int.injEq, true_and, and_true] at hx
 obtain ⟨⟨rfl, rfl, rfl, rfl⟩, _⟩ := hx
 simp at ea eb ec ee
 subst ea eb ec ee
 have hh : ∃ t k, W.heap[0]? = some (.cells #[.int .i64 (-65536), .int .i64 (-65536), .int .i64 65536, .int .i64 65536] t k) := by
  unfold World.var? at hv
  rw [gLimits] at hv
  simp only [Option.bind_some] at hv
  split at hv
  ·rename_i cs2 t2 k2 he
   injection hv with hv
   subst hv
   exact ⟨_, _, he⟩
  ·cases hv
 obtain ⟨t2, k2, hh⟩ := hh
 refine ⟨(Array.getElem?_eq_some_iff.1 hh).1, fun j hj => ?_⟩
 unfold World.cell?
 simp only [hh]
 rfl
end Go.Proofs.YtepelndbbhdofaaGreatDoor
/- Openers of chapter 14's arguments; masks. -/
namespace Go.Proofs.YtepelndbbhdofaaGreatDoor
open Go.ChangeShapes Go.WideShapes Go.ChangeAt Go.RowKit Pl
set_option linter.unusedVariables false
set_option linter.unusedSimpArgs false
set_option maxRecDepth 20000
section
variable {H : Type} {enc : TypeId × Value → H} {w : World} {base : Nat} {spare : Nat → Bool} {held : Bool}
end
theorem mask63 (x : Int) : ∃ p : Int, bits .and .i64 x 63 = p ∧ 0 ≤ p ∧ p ≤ 63 := ⟨x % 64, bits_mask x 6 63 rfl (by decide), by omega, by omega⟩
theorem mask4095 (x : Int) : ∃ p : Int, bits .and .i64 x 4095 = p ∧ 0 ≤ p ∧ p ≤ 4095 := ⟨x % 4096, bits_mask x 12 4095 rfl (by decide), by omega, by omega⟩
/- Openers of chapter 14's arguments: rows of three and six integers, a Raw. -/
section
variable {H : Type} {enc : TypeId × Value → H} {w : World} {base : Nat} {spare : Nat → Bool} {held : Bool}
end
end Go.Proofs.YtepelndbbhdofaaGreatDoor
/- Plain: made strokes are valid, lie near the origin, and paint without an error. -/
namespace Go.Proofs.YtepelndbbhdofaaGreatDoor
open Go.RowKit Pl
set_option linter.unusedVariables false
set_option linter.unusedSimpArgs false
set_option maxRecDepth 20000
/-- Dabs within the bounds of the points. -/
def InD (m n R : Int) (d : Db) : Prop := (m ≤ d.x ∧ d.x ≤ n) ∧ (m ≤ d.y ∧ d.y ≤ n) ∧ 0 ≤ d.r ∧ d.r ≤ R
def InS (m n : Int) (a : Sp) : Prop := (m ≤ a.x ∧ a.x ≤ n) ∧ (m ≤ a.y ∧ a.y ≤ n)
theorem dabA_in {s : Stk} (h : VSk s) {m n R x y p : Int} (hx : m ≤ x ∧ x ≤ n) (hy : m ≤ y ∧ y ≤ n) (hp : 0 ≤ p ∧ p ≤ 255) (hR : s.rad ≤ R) : InD m n R (dabA s x y p) := by
 have hr := h.r1
 have hr2 := h.r2
 have h7 := mul_bd (a := s.rad) (b := p) (m := 256) (k := 255) (by omega) (by omega) hp.1 hp.2
 have h9 : s.rad * p ≤ s.rad * 255 := Int.mul_le_mul_of_nonneg_left hp.2 (by omega)
 have h8 := roundI_bd (n := s.rad * p) (d := 255) (m := s.rad) h7.1 (by omega) (by omega)
 exact ⟨hx, hy, h8.1, Int.le_trans h8.2 hR⟩
theorem dabK_in {s : Stk} (h : VSk s) {m n R : Int} (hp : ∀ a ∈ s.pts, InS m n a) (hR : s.rad ≤ R) {k : Nat} (hk : k < cntS s) : InD m n R (dabK s k) := by
 have hat : ∀ j, j < s.pts.length → InS m n (pAt s.pts j) ∧ okS (pAt s.pts j) := fun j hj => ⟨hp _ (List.mem_of_getElem? (pAt_some hj)), h.pt hj⟩
 by_cases hn : s.pts.length = 1
 ·unfold dabK
  rw [if_pos hn]
  obtain ⟨⟨h1, h2⟩, o1, o2, o3, o4, o5, o6⟩ := hat 0 (by omega)
  exact dabA_in h h1 h2 ⟨o5, o6⟩ hR
 ·obtain ⟨j, h1, h2, h3, e⟩ := dab_loc h hn hk
  obtain ⟨⟨a1, a2⟩, p1, p2, p3, p4, p5, p6⟩ := hat j (by omega)
  obtain ⟨⟨b1, b2⟩, q1, q2, q3, q4, q5, q6⟩ := hat (j + 1) h1
  rw [e]
  have hl : s.pha + k * s.spa - preI s.pts j < lenI (pAt s.pts j) (pAt s.pts (j + 1)) := by
   have : preI s.pts (j + 1) = preI s.pts j + lenI (pAt s.pts j) (pAt s.pts (j + 1)) := rfl
   omega
  exact dabA_in h (mid_bd (by omega) hl a1 b1) (mid_bd (by omega) hl a2 b2) (mid_bd (by omega) hl ⟨p5, p6⟩ ⟨q5, q6⟩) hR
theorem dabsF_in {s : Stk} (h : VSk s) {m n R : Int} (hp : ∀ a ∈ s.pts, InS m n a) (hR : s.rad ≤ R) : ∀ d ∈ dabsF s, InD m n R d := fun d hd => by
 obtain ⟨k, hk, rfl⟩ := List.mem_map.1 hd
 exact dabK_in h hp hR (List.mem_range.1 hk)
theorem mul_self_nn (z : Int) : 0 ≤ z * z := by
 rcases Int.le_total 0 z with h | h
 ·exact Int.mul_nonneg h h
 ·have := Int.mul_nonneg (show 0 ≤ -z by omega) (show 0 ≤ -z by omega)
  rwa [Int.neg_mul_neg] at this
theorem lenI_le {a b : Sp} {D s : Int} (hs : 0 ≤ s) (hx : -D ≤ b.x - a.x ∧ b.x - a.x ≤ D) (hy : -D ≤ b.y - a.y ∧ b.y - a.y ≤ D) (h : D * D + D * D < (s + 1) * (s + 1)) : lenI a b ≤ s := by
 have sq : ∀ {z : Int}, -D ≤ z ∧ z ≤ D → z * z ≤ D * D := fun {z} hz => (mulS14 (M := D) hz hz).2
 have h1 := sq hx
 have h2 := sq hy
 unfold lenI
 rcases Int.lt_or_le s ((sqN (nrm2 a b).toNat : Nat) : Int) with k | k
 ·have h3 : (s + 1).toNat ≤ sqN (nrm2 a b).toNat := by omega
  have h4 := le_sqN.1 h3
  have h5 : ((s + 1).toNat * (s + 1).toNat : Nat) ≤ (nrm2 a b).toNat := h4
  have h6 : (((s + 1).toNat * (s + 1).toNat : Nat) : Int) = (s + 1) * (s + 1) := by rw [Int.natCast_mul]; congr 1 <;> omega
  have h7 : nrm2 a b ≤ D * D + D * D := Int.add_le_add h1 h2
  have hnn : 0 ≤ nrm2 a b := Int.add_nonneg (mul_self_nn _) (mul_self_nn _)
  have h8 : ((nrm2 a b).toNat : Int) = nrm2 a b := Int.toNat_of_nonneg hnn
  have h9 : (s + 1) * (s + 1) ≤ nrm2 a b := by rw [← h6, ← h8]; exact Int.ofNat_le.2 h5
  exact absurd (Int.lt_of_le_of_lt (Int.le_trans h9 h7) h) (Int.lt_irrefl _)
 ·exact k
theorem preI_le {l : List Sp} {s : Int} (hs : 0 ≤ s) (h : ∀ j, j + 1 < l.length → lenI (pAt l j) (pAt l (j + 1)) ≤ s) : ∀ k, k + 1 ≤ l.length → preI l k ≤ k * s
 | 0, _ => by show (0 : Int) ≤ _; omega
 | k + 1, hk => by
  have e : preI l (k + 1) = preI l k + lenI (pAt l k) (pAt l (k + 1)) := rfl
  have h1 := preI_le hs h k (by omega)
  have h2 := h k hk
  rw [e, Int.natCast_add, Int.add_mul]
  omega
theorem madeSp_in (L : List Int) (k : Nat) : InS (-100) 299 (madeSp L k) ∧ 0 ≤ (madeSp L k).p ∧ (madeSp L k).p ≤ 255 := by
 have h1 := pick_bd L (6 + 3 * k) (m := 400) (by omega)
 have h2 := pick_bd L (7 + 3 * k) (m := 400) (by omega)
 have h3 := pick_bd L (8 + 3 * k) (m := 256) (by omega)
 unfold madeSp InS
 simp only
 omega
theorem made_in (L : List Int) : ∀ a ∈ (made14 L).pts, InS (-100) 299 a ∧ 0 ≤ a.p ∧ a.p ≤ 255 := fun a ha => by
 obtain ⟨k, _, rfl⟩ := List.mem_map.1 ha
 exact madeSp_in L k
theorem made_len (L : List Int) : (made14 L).pts.length = madeN L := madePts_len _ _
theorem made_vs (L : List Int) : VSk (made14 L) := by
 have hn := madeN_bd L
 have hl := made_len L
 have r0 := pick_bd L 0 (m := 64) (by omega)
 have s0 := pick_bd L 1 (m := 120) (by omega)
 have p0 := pick_bd L 2 (m := 100) (by omega)
 have hat : ∀ j, j < (made14 L).pts.length → InS (-100) 299 (pAt (made14 L).pts j) := fun j hj => (made_in L _ (List.mem_of_getElem? (pAt_some hj))).1
 have hlen : ∀ j, j + 1 < (made14 L).pts.length → lenI (pAt (made14 L).pts j) (pAt (made14 L).pts (j + 1)) ≤ 600 := fun j hj => by
  obtain ⟨a1, a2⟩ := hat j (by omega)
  obtain ⟨b1, b2⟩ := hat (j + 1) hj
  exact lenI_le (D := 400) (by omega) (by omega) (by omega) (by decide)
 have hpre := preI_le (by omega) hlen ((made14 L).pts.length - 1) (by omega)
 have hspa : (made14 L).spa = 8 + pickI L 1 120 := rfl
 have hrad : (made14 L).rad = 1 + pickI L 0 64 := rfl
 have hpha : (made14 L).pha = pickI L 2 100 := rfl
 refine ⟨by omega, by omega, by omega, by omega, by omega, by omega, by omega, by omega, fun a ha => ?_, ?_⟩
 ·obtain ⟨⟨h1, h2⟩, h3, h4⟩ := made_in L a ha
  unfold okS
  omega
 ·unfold totI
  have : (((made14 L).pts.length - 1 : Nat) : Int) * 600 ≤ 5 * 600 := by omega
  omega
theorem made_valid (L : List Int) : validS (made14 L) = true := (validS_iff _).2 (made_vs L)
theorem made_dabs (L : List Int) : ∀ d ∈ dabsF (made14 L), InD (-100) 299 64 d := dabsF_in (made_vs L) (fun a ha => (made_in L a ha).1) (by have r0 := pick_bd L 0 (m := 64) (by omega); show 1 + pickI L 0 64 ≤ 64; omega)
/- Plain: painting made strokes onto made rasters ends without an error. -/
def boxM : Rc := ⟨-3, -3, 4, 4⟩
theorem boxM_fits : Fits boxM := by unfold boxM; refine ⟨?_, ?_, ?_, ?_, ?_, ?_, ?_, ?_⟩ <;> (simp only; omega)
theorem boxM_area : areaN boxM ≤ 1024 := by decide
theorem BoxA.nil (R : Rc) : BoxA R [] := fun e h => by cases h
theorem BoxA.fine {R : Rc} {ls : List TA} (h : BoxA R ls) : BoxA R (fineL ls) := by
 unfold fineL
 split
 ·exact h
 ·exact BoxA.nil R
/-- A dab near the origin turns tiles of the box alone. -/
theorem near_box {d : Db} (h : InD (-100) 299 64 d) : BoxD boxM d := fun hk x y hh => by
 unfold skD at hk
 rw [Bool.or_eq_false_iff] at hk
 obtain ⟨⟨a1, a2⟩, ⟨a3, a4⟩, a5, a6⟩ := h
 have e := sq_lim d hk.2
 have hE := (emptyR_not _).1 hk.2
 rw [e] at hh hE
 unfold sqrD at hh hE
 unfold tlR at hh
 rw [hasR_iff] at hh ⊢
 unfold boxM
 simp only at hh hE ⊢
 omega
theorem made_boxD (L : List Int) : ∀ d ∈ dabsF (made14 L), BoxD boxM d := fun d hd => near_box (made_dabs L d hd)
theorem made_ok (L : List Int) : (made14 L).col.ok := madeP_ok _
/-- Painted without an error, and within the box. -/
theorem made_paint {s : Stk} {L : List Int} (hd : dabsF s = dabsF (made14 L)) (hv : validS s = true) {ls : List TA} (hb : BoxA boxM ls) : (paintS s ls).2 = 0 ∧ BoxA boxM (paintS s ls).1 := by
 unfold paintS
 rw [if_pos hv, hd]
 exact inkF_box (s := s) boxM_fits boxM_area _ _ (dabsF_ok (made_vs L)) (made_boxD L) (fineL_valid ls) hb.fine
end Go.Proofs.YtepelndbbhdofaaGreatDoor
/- of: a made stroke with one field changed. -/
namespace Go.Proofs.YtepelndbbhdofaaGreatDoor
open Go.RowKit Go.Shelf Pl
set_option linter.unusedVariables false
set_option linter.unusedSimpArgs false
set_option maxRecDepth 20000
def oIx (L : List Int) (val : Int) : Nat := (val % 65536 % (madeN L : Int)).toNat
def ofTail (n k : Nat) : List Sp := (List.range k).map fun j => ⟨((n + j : Nat) : Int), 0, 9⟩
def ofN (val : Int) : Nat := (64 + val % 2).toNat
def fillP (l : List Sp) (k : Nat) : List Sp := l ++ ofTail l.length k
/-- The stroke that 'of' returns. -/
def chS (s : Stk) (c : Int) (i : Nat) (val : Int) : Stk :=
 if c = 1 then { s with pts := s.pts.set i ⟨val, (pAt s.pts i).y, (pAt s.pts i).p⟩ }
 else if c = 2 then { s with pts := s.pts.set i ⟨(pAt s.pts i).x, val, (pAt s.pts i).p⟩ }
 else if c = 3 then { s with pts := s.pts.set i ⟨(pAt s.pts i).x, (pAt s.pts i).y, val⟩ }
 else if c = 4 then { s with rad := val }
 else if c = 5 then { s with spa := val }
 else if c = 6 then { s with pha := val }
 else if c = 7 then { s with pts := [] }
 else if c = 8 then { s with pts := fillP s.pts (ofN val - s.pts.length) }
 else s
def ofS (L : List Int) (how val : Int) : Stk := chS (made14 L) (how % 16) (oIx L val) val
def lenW : Option Value → Nat
 | some (.slice _ n _) => n
 | _ => 0
end Go.Proofs.YtepelndbbhdofaaGreatDoor
/- Plain: an image of one raster pasted into another. -/
namespace Go.Proofs.YtepelndbbhdofaaGreatDoor
open Go.RowKit Pl
set_option linter.unusedVariables false
set_option linter.unusedSimpArgs false
end Go.Proofs.YtepelndbbhdofaaGreatDoor
/- Plain: what the laws on painted strokes (StrokeErase, StrokeHalves, StrokeArea) say. -/
namespace Go.Proofs.YtepelndbbhdofaaGreatDoor
open Go.RowKit Pl
set_option linter.unusedVariables false
set_option linter.unusedSimpArgs false
set_option maxRecDepth 20000
theorem made_okD (L : List Int) : ∀ d ∈ dabsF (made14 L), okD d := dabsF_ok (made_vs L)
/-! ### StrokeErase -/
def eraS (s : Stk) : Stk := { s with era := true }
def opqS (s : Stk) : Stk := { s with era := false, col := ⟨s.col.r, s.col.g, s.col.b, 255⟩ }
/-! ### StrokeHalves -/
/-! ### StrokeArea -/
def tlrR (p : Int × Int) : Rc := ⟨8 * p.1, 8 * p.2, 8 * p.1 + 8, 8 * p.2 + 8⟩
/- Plain: what StrokeShift says. -/
theorem madeSh_okS (M : List Int) {X Y : Int} (hX : -2100 ≤ X ∧ X ≤ 2100) (hY : -2100 ≤ Y ∧ Y ≤ 2100) : ∀ a ∈ (made14 M).pts, okS (shP X Y a) := fun a ha => by
 obtain ⟨⟨h1, h2⟩, h3, h4⟩ := made_in M a ha
 unfold okS shP
 simp only
 omega
theorem madeSh_vs (M : List Int) {X Y : Int} (hX : -2100 ≤ X ∧ X ≤ 2100) (hY : -2100 ≤ Y ∧ Y ≤ 2100) : VSk (shS X Y (made14 M)) := sh_ok (made_vs M) (madeSh_okS M hX hY)
theorem madeSh_dabs (M : List Int) (X Y : Int) : dabsF (shS X Y (made14 M)) = (dabsF (made14 M)).map (shD X Y) := dabs_sh (made_vs M)
theorem madeSh_okD (M : List Int) {X Y : Int} (hX : -2100 ≤ X ∧ X ≤ 2100) (hY : -2100 ≤ Y ∧ Y ≤ 2100) : ∀ d ∈ dabsF (made14 M), okD (shD X Y d) := fun d hd =>
 dabsF_ok (madeSh_vs M hX hY) _ (by rw [madeSh_dabs]; exact List.mem_map_of_mem hd)
def boxH (X Y : Int) : Rc := ⟨(X - 11) / 8, (Y - 11) / 8, (X + 22) / 8 + 1, (Y + 22) / 8 + 1⟩
theorem boxH_fits {X Y : Int} (hX : -2100 ≤ X ∧ X ≤ 2100) (hY : -2100 ≤ Y ∧ Y ≤ 2100) : Fits (boxH X Y) := by unfold boxH; refine ⟨?_, ?_, ?_, ?_, ?_, ?_, ?_, ?_⟩ <;> (simp only; omega)
theorem boxH_area {X Y : Int} (hX : -2100 ≤ X ∧ X ≤ 2100) (hY : -2100 ≤ Y ∧ Y ≤ 2100) : areaN (boxH X Y) ≤ 1024 := by
 rw [(area_wid (boxH_fits hX hY)).1]
 have w1 : widN (boxH X Y) ≤ 6 := by unfold widN boxH; simp only; omega
 have w2 : ((boxH X Y).y1 - (boxH X Y).y0).toNat ≤ 6 := by unfold boxH; simp only; omega
 exact Nat.le_trans (Nat.mul_le_mul w1 w2) (by omega)
theorem sh_box {d : Db} {X Y : Int} (hX : -2100 ≤ X ∧ X ≤ 2100) (hY : -2100 ≤ Y ∧ Y ≤ 2100) (h : InD (-100) 299 64 d) : BoxD (boxH X Y) (shD X Y d) := fun hk x y hh => by
 unfold skD at hk
 rw [Bool.or_eq_false_iff] at hk
 obtain ⟨⟨a1, a2⟩, ⟨a3, a4⟩, a5, a6⟩ := h
 have e := sq_lim (shD X Y d) hk.2
 have hE := (emptyR_not _).1 hk.2
 rw [e] at hh hE
 unfold sqrD shD at hh hE
 unfold tlR at hh
 rw [hasR_iff] at hh ⊢
 unfold boxH
 simp only at hh hE ⊢
 omega
theorem madeSh_paint (M : List Int) {X Y : Int} (hX : -2100 ≤ X ∧ X ≤ 2100) (hY : -2100 ≤ Y ∧ Y ≤ 2100) : (paintS (shS X Y (made14 M)) []).2 = 0 := by
 unfold paintS
 rw [if_pos ((validS_iff _).2 (madeSh_vs M hX hY)), fineL_of validL_nil]
 refine (inkF_box (boxH_fits hX hY) (boxH_area hX hY) _ _ (dabsF_ok (madeSh_vs M hX hY)) (fun d hd => ?_) validL_nil (BoxA.nil _)).1
 rw [madeSh_dabs] at hd
 obtain ⟨d', hd', rfl⟩ := List.mem_map.1 hd
 exact sh_box hX hY (made_dabs M d' hd')
theorem ink_shF {s : Stk} {X Y x y : Int} (hx : -65536 ≤ x ∧ x < 65536 ∧ -65536 ≤ y ∧ y < 65536) (hX : -65536 ≤ x + X ∧ x + X < 65536 ∧ -65536 ≤ y + Y ∧ y + Y < 65536) : ∀ (l : List Db) (p : Px), (∀ d ∈ l, okD d ∧ okD (shD X Y d)) → (l.map (shD X Y)).foldl (inkX (shS X Y s) (x + X) (y + Y)) p = l.foldl (inkX s x y) p
 | [], p, _ => rfl
 | d :: r, p, h => by
  show (r.map (shD X Y)).foldl _ (inkX (shS X Y s) (x + X) (y + Y) p (shD X Y d)) = r.foldl _ (inkX s x y p d)
  obtain ⟨h1, h2⟩ := h d (List.mem_cons_self ..)
  rw [inkX_sh h1 h2 x y hx hX p]
  exact ink_shF hx hX r _ fun e he => h e (List.mem_cons_of_mem _ he)
theorem getL_nil (x y : Int) : getL [] x y = Px.zero := rfl
theorem shift_law (M : List Int) {X Y x y : Int} (hX : -2100 ≤ X ∧ X ≤ 2100) (hY : -2100 ≤ Y ∧ Y ≤ 2100) (hx : -100 ≤ x ∧ x ≤ 100) (hy : -100 ≤ y ∧ y ≤ 100) : getL (paintS (shS X Y (made14 M)) []).1 (x + X) (y + Y) = getL (paintS (made14 M) []).1 x y := by
 have h0 := madeSh_paint M hX hY
 have h1 := (made_paint rfl (made_valid M) (BoxA.nil boxM)).1
 unfold paintS at h0 h1 ⊢
 rw [if_pos ((validS_iff _).2 (madeSh_vs M hX hY)), fineL_of validL_nil] at h0 ⊢
 rw [if_pos (made_valid M), fineL_of validL_nil] at h1
 rw [if_pos (made_valid M)]
 rw [inkF_get (s := shS X Y (made14 M)) (made_ok M) _ _ _ _ (dabsF_ok (madeSh_vs M hX hY)) validL_nil TokL.nil h0, inkF_get (made_ok M) x y _ _ (made_okD M) validL_nil TokL.nil h1, madeSh_dabs, getL_nil, getL_nil]
 exact ink_shF (by omega) (by omega) _ _ fun d hd => ⟨made_okD M d hd, madeSh_okD M hX hY d hd⟩
theorem shift_cov (M : List Int) {X Y : Int} (hX : -2100 ≤ X ∧ X ≤ 2100) (hY : -2100 ≤ Y ∧ Y ≤ 2100) {d : Db} (hd : d ∈ dabsF (made14 M)) (x y : Int) : covD (shD X Y d) (x + X) (y + Y) = covD d x y := cov_sh (made_okD M d hd) (madeSh_okD M hX hY d hd) x y
end Go.Proofs.YtepelndbbhdofaaGreatDoor
/- Changed of package raster. -/
namespace Go.Proofs.YtepelndbbhdofaaGreatDoor
open Go.RowKit Go.Shelf Pl
set_option linter.unusedVariables false
set_option linter.unusedSimpArgs false
set_option maxRecDepth 20000
def lenV : Value → Nat
 | .slice _ n _ => n
 | _ => 0
/- Contracts in the shape of chapter 14's laws: pixels by their parts, painting of made strokes. -/
theorem P_GetL (v : Value) (ls : List TA) (x y : Int) (p : Px) (w : World) (h : RS v ls w) (hn : ls.length ≤ maxLen) (hx : -9223372036854775808 ≤ x ∧ x ≤ 9223372036854775807) (hy : -9223372036854775808 ≤ y ∧ y ≤ 9223372036854775807) (e1 : getL ls x y = p) : Calls Tryz.prog 31 #[.agg #[v], .int .i64 x, .int .i64 y] w fun e w' => e = .returned (.agg #[.int .u8 p.r, .int .u8 p.g, .int .u8 p.b, .int .u8 p.a]) ∧ Below w.heap.size w w' := by
 have h0 := P_GetR v ls x y w h hn (wf_mk hx.1 hx.2) (wf_mk hy.1 hy.2)
 rw [e1] at h0
 exact h0
theorem eqls_pxS (r g b a : Int) (w : World) : (binOp .eql 28 (.agg #[.int .u8 r, .int .u8 g, .int .u8 b, .int .u8 a]) (.agg #[.int .u8 r, .int .u8 g, .int .u8 b, .int .u8 a])).run Tryz.prog w = .ok (.bool true) w := eqls_px ⟨r, g, b, a⟩ w
theorem paintS_len {s : Stk} (hc : s.col.ok) {ls : List TA} (ht : TokL ls) {K : List TA} {E : Int} (e : paintS s ls = (K, E)) : K.length ≤ maxLen ∧ validL K = true ∧ TokL K := by
 have h := paint_valid hc ht (s := s)
 rw [e] at h
 have h1 : validL K = true := h.1
 have h2 : TokL K := h.2
 have := (validL_iff.1 h1).1
 exact ⟨by unfold maxLen; omega, h1, h2⟩
def shN (X Y : Int) (s : Stk) : NSpec := ⟨Option Addr × Nat × Nat, ⟨(none, 0, 0)⟩, fun p => .agg (stC (.slice p.1 p.2.1 p.2.2) (shS X Y s)), fun p w => RSE spE (.slice p.1 p.2.1 p.2.2) (shS X Y s).pts w, fun _ _ _ hb h => h.below hb⟩
theorem shiftB_bd (M : List Int) : ∀ a ∈ (made14 M).pts, (-1000000000 ≤ a.x ∧ a.x ≤ 1000000000) ∧ (-1000000000 ≤ a.y ∧ a.y ≤ 1000000000) := fun a ha => by
 obtain ⟨⟨h1, h2⟩, h3, h4⟩ := made_in M a ha
 omega
theorem P_ShiftN (v : Value) (s : Stk) (X Y : Int) (w : World) (rs : RSE spE v s.pts w) (hn : s.pts.length ≤ 100000) (hX : -1000000 ≤ X ∧ X ≤ 1000000) (hY : -1000000 ≤ Y ∧ Y ≤ 1000000) (hok : ∀ a ∈ s.pts, (-1000000000 ≤ a.x ∧ a.x ≤ 1000000000) ∧ (-1000000000 ≤ a.y ∧ a.y ≤ 1000000000)) : Calls Tryz.prog 39 #[.agg (stC v s), .int .i64 X, .int .i64 Y] w fun e w' => ∃ a n c, e = .returned (.agg (stC (.slice a n c) (shS X Y s))) ∧ OwnE spE w.heap.size (.slice a n c) (shS X Y s).pts w' ∧ Below w.heap.size w w' :=
 (P_Shift14 v s X Y w rs hn hX hY hok).mono fun e w' ⟨v', h1, h2, h3⟩ => by
  obtain ⟨a, c, rfl, _⟩ := h2.len
  exact ⟨_, _, _, h1, h2, h3⟩
theorem R_ShiftN (v : Value) (s : Stk) (X Y : Int) (w : World) (rs : RSE spE v s.pts w) (hn : s.pts.length ≤ 100000) (hX : -1000000 ≤ X ∧ X ≤ 1000000) (hY : -1000000 ≤ Y ∧ Y ≤ 1000000) (hok : ∀ a ∈ s.pts, (-1000000000 ≤ a.x ∧ a.x ≤ 1000000000) ∧ (-1000000000 ≤ a.y ∧ a.y ≤ 1000000000)) : Calls Tryz.prog 42 #[.agg (stC v s), .int .i64 X, .int .i64 Y] w fun e w' => ∃ a n c, e = .returned (.agg (stC (.slice a n c) (shS X Y s))) ∧ RSE spE (.slice a n c) (shS X Y s).pts w' ∧ Below w.heap.size w w' :=
 (R_Shift14 v s X Y w rs hn hX hY hok).mono fun e w' ⟨v', h1, h2, h3⟩ => by
  obtain ⟨a, c, rfl, _⟩ := h2.len
  exact ⟨_, _, _, h1, h2.rs, h3⟩
set_option maxHeartbeats 8000000 in
theorem walk_StrokeShift (v0 : Value) (M : List Int) (s0 s1 x0 y0 : Int) (w : World) (lm : LimAt w) (hM : RSE inE v0 M w) (hMn : M.length ≤ 17592186044416) : Calls Tryz.prog 10 #[v0, .agg #[.int .i64 s0, .int .i64 s1], .agg #[.int .i64 x0, .int .i64 y0]] w fun e w' => e = .returned (.bool true) ∧ Below w.heap.size w w' := by
 have B := Below.refl w.heap.size w
 have HM := Lib.hid hM
 clear hM
 obtain ⟨X, hX, X1, X2⟩ := mask63 x0
 obtain ⟨Y, hY, Y1, Y2⟩ := mask63 y0
 obtain ⟨DX0, hDX, DX1, DX2⟩ := mask4095 s0
 obtain ⟨DY0, hDY, DY1, DY2⟩ := mask4095 s1
 have MN := Lib.hid (show (made14 M).pts.length ≤ 17592186044416 from by rw [made_len]; have := madeN_bd M; omega)
 have MN2 := Lib.hid (show (made14 M).pts.length ≤ 100000 from by rw [made_len]; have := madeN_bd M; omega)
 obtain ⟨DX, hdx⟩ : ∃ z, DX0 - 2000 = z := ⟨_, rfl⟩
 obtain ⟨DY, hdy⟩ : ∃ z, DY0 - 2000 = z := ⟨_, rfl⟩
 have dxb : -2000 ≤ DX ∧ DX ≤ 2095 := by omega
 have dyb : -2000 ≤ DY ∧ DY ≤ 2095 := by omega
 have TN := Lib.hid (show (shS DX DY (made14 M)).pts.length ≤ 1000000 from by rw [sh_len]; have := MN2.out; omega)
 have TN2 := Lib.hid (show (shS DX DY (made14 M)).pts.length ≤ 17592186044416 from by have := TN.out; omega)
 have SB := Lib.hid (shiftB_bd M)
 have HK1 := Lib.hid (show paintS (made14 M) [] = ((paintS (made14 M) []).1, 0) from Prod.ext rfl (made_paint rfl (made_valid M) (BoxA.nil boxM)).1)
 have HK2 := Lib.hid (show paintS (shS DX DY (made14 M)) [] = ((paintS (shS DX DY (made14 M)) []).1, 0) from Prod.ext rfl (madeSh_paint M (by omega) (by omega)))
 have LAW := shift_law M (X := DX) (Y := DY) (x := X - 30) (y := Y - 30) (by omega) (by omega) (by omega) (by omega)
 have COV := Lib.hid (fun d (hd : d ∈ dabsF (made14 M)) => shift_cov M (X := DX) (Y := DY) (by omega) (by omega) hd (X - 30) (Y - 30))
 have OKD := Lib.hid (made_okD M)
 have PA := paintS_len (made_ok M) TokL.nil HK1.out
 have PB := paintS_len (s := shS DX DY (made14 M)) (made_ok M) TokL.nil HK2.out
 have D1 : dabsL (made14 M) = dabsF (made14 M) := by unfold dabsL; rw [if_pos (made_valid M)]
 have D2 : dabsL (shS DX DY (made14 M)) = (dabsF (made14 M)).map (shD DX DY) := by
  unfold dabsL
  rw [if_pos ((validS_iff _).2 (madeSh_vs M (by omega) (by omega))), madeSh_dabs]
 have DLE := dabsL_len (made14 M)
 obtain ⟨K1, hK1⟩ : ∃ K, (paintS (made14 M) []).1 = K := ⟨_, rfl⟩
 obtain ⟨K2, hK2⟩ : ∃ K, (paintS (shS DX DY (made14 M)) []).1 = K := ⟨_, rfl⟩
 rw [hK1] at HK1 LAW PA
 rw [hK2] at HK2 LAW PB
 rw [D1] at DLE
 obtain ⟨D, hD⟩ : ∃ D, dabsF (made14 M) = D := ⟨_, rfl⟩
 rw [hD] at D1 D2 DLE COV OKD
 have HD1 := Lib.hid D1
 have HD2 := Lib.hid D2
 have DN := Lib.hid (show (D.map (shD DX DY)).length = D.length from List.length_map _)
 obtain ⟨T, hT⟩ : ∃ T, D.map (shD DX DY) = T := ⟨_, rfl⟩
 rw [hT] at HD2 DN
 have HTT := Lib.hid hT
 have OK1 := Lib.hid (made_ok M)
 have OK2 := Lib.hid (show (shS DX DY (made14 M)).col.ok from made_ok M)
 have M1 := Lib.hid (fun w' (h : Below w.heap.size w w') => R_Made14W v0 M w' (HM.out.below h) hMn)
 obtain ⟨S, hS⟩ : ∃ S, made14 M = S := ⟨_, rfl⟩
 rw [hS] at MN MN2 TN TN2 SB HK1 HK2 OK1 OK2 M1 HD1 HD2
 have nK1 := Lib.hid PA.1
 have nK2 := Lib.hid PB.1
 obtain ⟨⟨pr, pg, pb, pa⟩, hp⟩ : ∃ p, getL K1 (X - 30) (Y - 30) = p := ⟨_, rfl⟩
 rw [hp] at LAW
 have HP1 := Lib.hid hp
 have HP2 := Lib.hid LAW
 clear hK1 hK2 hS PA PB HM hMn hp LAW D1 D2 hD hT
 have hq := eqls_pxS pr pg pb pa
 go_enter Tryz.func10, Tryz.ntmps10
 go_upto_region 0 with fail
 refine wp_region_lit ?_
 try simp only [gelS]
 (refine wpList_boxB (t := 61) rfl _ rfl _ rfl (alK B ?_); clear B; intro b_r4 wn hle hge r4 hbn hsz hln B; (try have hlt := lm.lt); (try replace lm := lm.below (hbn.mono hle)); simp only [putS])
 (refine wpList_boxB (t := 61) rfl _ rfl _ rfl (alK B ?_); clear B; intro b_r5 wn hle hge r5 hbn hsz hln B; (try have hlt := lm.lt); (try replace lm := lm.below (hbn.mono hle)); (try have hlt := r4.lt); (try replace r4 := r4.below (hbn.mono hle)); simp only [putS])
 refine chk 1 ?_
 refine wpList_nil ?_
 go_upto_region 1 with fail
 refine wp_region_lit ?_
 try simp only [gelS]
 refine clF (enters_of Tryz.func13 (by kernel_rfl) rfl) (c := sanity14 _ lm) (h := ?_)
 rintro e wn ⟨rfl, hbn⟩
 have hsz := B.size
 have hzn := hbn.size
 replace B := B.trans (hbn.mono B.size)
 (try replace lm := lm.below hbn)
 (try replace r4 := r4.below hbn)
 (try replace r5 := r5.below hbn)
 refine ⟨_, rfl, ?_⟩
 simp only [putS]
 refine chk 1 ?_
 refine wpList_nil ?_
 go_upto_region 2 with fail
 refine wp_region_lit ?_
 try simp only [gelS]
 refine chk 1 ?_
 refine clF (enters_of Tryz.func15 (by kernel_rfl) rfl) (c := M1.out _ B) (h := ?_)
 rintro e wn ⟨a1, c1, rfl, od, hbn⟩
 have hsz := B.size
 have hzn := hbn.size
 replace B := B.trans (hbn.mono B.size)
 (try replace lm := lm.below hbn)
 (try replace r4 := r4.below hbn)
 (try replace r5 := r5.below hbn)
 have rs := od.rs
 clear od
 refine ⟨_, rfl, ?_⟩
 simp only [putS]
 obtain ⟨wK, hK⟩ : ∃ z, z = wn := ⟨_, rfl⟩
 subst hK
 have BG := B
 have hwsK := BG.size
 have B := Below.refl wK.heap.size wK
 have H_lm := Lib.hid lm
 have H_r4 := Lib.hid r4
 have H_r5 := Lib.hid r5
 have H_rs := Lib.hid rs
 try simp only [gelS]
 (refine wpList_allocBk (t := 30) rfl _ (run_alloc_St _ _ rfl) (alK B ?_); clear B; intro b_r8 wn hle hge r8 hbn hsz hln B; simp only [putS])
 (refine wpList_storeB (t := 30) rfl _ _ rfl _ rfl _ rfl r8 (by kernel_rfl) rfl (by simp [stC, Value.oneCell']) (stK B (by omega) ?_); clear r8 B; intro wn r8 hcn hsz hzn B; simp only [putS])
 refine wpList_nil ?_
 clear lm
 clear r4
 clear r5
 clear rs
 have lm := by first | exact H_lm.out.below B | exact H_lm.out.of_eq (B.block _ H_lm.out.lt)
 have r4 := by first | exact H_r4.out.below B | exact H_r4.out.of_eq (B.block _ H_r4.out.lt)
 have r5 := by first | exact H_r5.out.below B | exact H_r5.out.of_eq (B.block _ H_r5.out.lt)
 have rs := by first | exact H_rs.out.below B | exact H_rs.out.of_eq (B.block _ H_rs.out.lt)
 clear H_lm
 clear H_r4
 clear H_r5
 clear H_rs
 have B0 := BG.trans (B.mono hwsK)
 clear B BG hwsK
 have B := B0
 clear B0
 clear M1
 go_upto_region 3 with fail
 refine wp_region_lit ?_
 try simp only [gelS]
 refine chk 5 ?_
 refine wpList_nil ?_
 go_upto_region 4 with fail
 refine wp_region_lit ?_
 try simp only [gelS]
 refine chk 5 ?_
 refine wpList_nil ?_
 (try simp only [hdx, hdy])
 clear r4 hDX hDY hdx hdy
 go_upto_region 5 with fail
 refine wp_region_lit ?_
 try simp only [gelS]
 refine chk 3 ?_
 refine clF (enters_of Tryz.func39 (by kernel_rfl) rfl) (c := P_ShiftN _ S DX DY _ rs MN2.out (by omega) (by omega) SB.out) (h := ?_)
 rintro e wn ⟨a2, n2, c2, rfl, od, hbn⟩
 have hsz := B.size
 have hzn := hbn.size
 replace B := B.trans (hbn.mono B.size)
 (try replace lm := lm.below hbn)
 (try replace r5 := r5.below hbn)
 (try replace rs := rs.below hbn)
 (try replace r8 := r8.below hbn)
 have ts := od.rs
 clear od
 refine ⟨_, rfl, ?_⟩
 simp only [putS]
 obtain ⟨wK, hK⟩ : ∃ z, z = wn := ⟨_, rfl⟩
 subst hK
 have BG := B
 have hwsK := BG.size
 have B := Below.refl wK.heap.size wK
 have H_lm := Lib.hid lm
 have H_r5 := Lib.hid r5
 have H_rs := Lib.hid rs
 have H_r8 := Lib.hid r8
 have H_ts := Lib.hid ts
 try simp only [gelS]
 (refine wpList_allocBk (t := 30) rfl _ (run_alloc_St _ _ rfl) (alK B ?_); clear B; intro b_r11 wn hle hge r11 hbn hsz hln B; simp only [putS])
 (refine wpList_storeB (t := 30) rfl _ _ rfl _ rfl _ rfl r11 (by kernel_rfl) rfl (by simp [stC, Value.oneCell']) (stK B (by omega) ?_); clear r11 B; intro wn r11 hcn hsz hzn B; simp only [putS])
 refine wpList_nil ?_
 clear lm
 clear r5
 clear rs
 clear r8
 clear ts
 have lm := by first | exact H_lm.out.below B | exact H_lm.out.of_eq (B.block _ H_lm.out.lt)
 have r5 := by first | exact H_r5.out.below B | exact H_r5.out.of_eq (B.block _ H_r5.out.lt)
 have rs := by first | exact H_rs.out.below B | exact H_rs.out.of_eq (B.block _ H_rs.out.lt)
 have r8 := by first | exact H_r8.out.below B | exact H_r8.out.of_eq (B.block _ H_r8.out.lt)
 have ts := by first | exact H_ts.out.below B | exact H_ts.out.of_eq (B.block _ H_ts.out.lt)
 clear H_lm
 clear H_r5
 clear H_rs
 clear H_r8
 clear H_ts
 have B0 := BG.trans (B.mono hwsK)
 clear B BG hwsK
 have B := B0
 clear B0
 go_upto_region 6 with fail
 refine wp_region_lit ?_
 try simp only [gelS]
 refine chk 1 ?_
 refine clF (enters_of Tryz.func19 (by kernel_rfl) rfl) (c := P_Dabs14 _ S D _ rs MN.out HD1.out) (h := ?_)
 rintro e wn ⟨a3, c3, rfl, od, hbn⟩
 have hsz := B.size
 have hzn := hbn.size
 replace B := B.trans (hbn.mono B.size)
 (try replace lm := lm.below hbn)
 (try replace r5 := r5.below hbn)
 (try replace rs := rs.below hbn)
 (try replace r8 := r8.below hbn)
 (try replace ts := ts.below hbn)
 (try replace r11 := r11.below hbn)
 have ra := od.rs
 clear od
 refine ⟨_, rfl, ?_⟩
 simp only [putS]
 refine chk 1 ?_
 refine wpList_nil ?_
 go_upto_region 7 with fail
 refine wp_region_lit ?_
 try simp only [gelS]
 refine chk 1 ?_
 refine clF (enters_of Tryz.func19 (by kernel_rfl) rfl) (c := P_Dabs14 _ (shS DX DY S) T _ ts TN2.out HD2.out) (h := ?_)
 rintro e wn ⟨a4, c4, rfl, od, hbn⟩
 have hsz := B.size
 have hzn := hbn.size
 replace B := B.trans (hbn.mono B.size)
 (try replace lm := lm.below hbn)
 (try replace r5 := r5.below hbn)
 (try replace rs := rs.below hbn)
 (try replace r8 := r8.below hbn)
 (try replace ts := ts.below hbn)
 (try replace r11 := r11.below hbn)
 (try replace ra := ra.below hbn)
 have rb := od.rs
 clear od
 refine ⟨_, rfl, ?_⟩
 simp only [putS]
 refine chk 1 ?_
 refine wpList_nil ?_
 go_upto_region 8 with fail
 refine wp_region_lit ?_
 try simp only [gelS]
 refine chk 5 ?_
 refine wpList_nil ?_
 go_upto_region 9 with fail
 refine wp_region_lit ?_
 try simp only [gelS]
 refine chk 5 ?_
 refine wpList_nil ?_
 clear r5 hX hY
 rw [DN.out] at rb
 simp only [DN.out]
 go_upto_region 10 with fail
 have q0 : ((D.length : Int) != (D.length : Int)) = false := by simp
 try simp only [gelS]
 try have lx_lm := lm.lt
 try have lx_rs := rs.lt
 try have lx_r8 := r8.lt
 try have lx_ts := ts.lt
 try have lx_r11 := r11.lt
 try have lx_ra := ra.lt
 try have lx_rb := rb.lt
 refine wp_region_RL 14 [(1, detS ?v1_1), (3, detS ?v1_3), (10, shN DX DY S), (11, detS ?v1_11)] (by kernel_rfl) (by kernel_rfl) (by kernel_rfl) ?_
 rotate_left 3
 simp only [takS, Nat.reduceAdd]
 refine crk 1 ?_
 refine wpRL_callB (by rfl) (by first | rfl | simp [Region.wanted, yielded]) ?_ ?_
 ·intro wn hbn hE Kx hKx
  have hsz := B.size
  have hzn := hbn.size
  replace B := B.trans (hbn.mono B.size)
  (try replace lm := lm.below hbn)
  (try replace rs := rs.below hbn)
  (try replace r8 := r8.below hbn)
  (try replace ts := ts.below hbn)
  (try replace r11 := r11.below hbn)
  (try replace ra := ra.below hbn)
  (try replace rb := rb.below hbn)
  refine wp_lenS rfl Tryz.underlying35 rfl ?_
  exact hKx () _ trivial (Below.refl _ _)
 rintro ⟨⟩
 dsimp only [detS]
 simp only [putS]
 refine crk 1 ?_
 refine wpRL_callB (by rfl) (by first | rfl | simp [Region.wanted, yielded]) ?_ ?_
 ·intro wn hbn hE Kx hKx
  have hsz := B.size
  have hzn := hbn.size
  replace B := B.trans (hbn.mono B.size)
  (try replace lm := lm.below hbn)
  (try replace rs := rs.below hbn)
  (try replace r8 := r8.below hbn)
  (try replace ts := ts.below hbn)
  (try replace r11 := r11.below hbn)
  (try replace ra := ra.below hbn)
  (try replace rb := rb.below hbn)
  refine wp_lenS rfl Tryz.underlying35 rfl ?_
  exact hKx () _ trivial (Below.refl _ _)
 rintro ⟨⟩
 dsimp only [detS]
 simp only [putS]
 refine crk 6 ?_
 refine wpRL_callB (by rfl) ?hw1_10 ?_ ?_
 case hw1_10 => kernel_rfl
 ·intro wn hbn hE Kx hKx
  have hsz := B.size
  have hzn := hbn.size
  replace B := B.trans (hbn.mono B.size)
  (try replace lm := lm.below hbn)
  (try replace rs := rs.below hbn)
  (try replace r8 := r8.below hbn)
  (try replace ts := ts.below hbn)
  (try replace r11 := r11.below hbn)
  (try replace ra := ra.below hbn)
  (try replace rb := rb.below hbn)
  refine wp_callF rfl (enters_of Tryz.func42 (by kernel_rfl) rfl) (by simp only [Act.eval, evlS]; rfl) ?_
  refine (R_ShiftN _ S DX DY wn rs MN2.out (by omega) (by omega) SB.out).mono ?_
  rintro e wm ⟨a', n', c', rfl, hr, hbm⟩
  exact ⟨_, rfl, hKx (a', n', c') wm hr hbm⟩
 rintro ⟨a58, n58, c58⟩
 dsimp only [detS, shN]
 simp only [putS]
 refine wpRL_callB (by rfl) ?hw1_11 ?_ ?_
 case hw1_11 => kernel_rfl
 ·intro wn hbn hE Kx hKx
  have hsz := B.size
  have hzn := hbn.size
  replace B := B.trans (hbn.mono B.size)
  (try replace lm := lm.below hbn)
  (try replace rs := rs.below hbn)
  (try replace r8 := r8.below hbn)
  (try replace ts := ts.below hbn)
  (try replace r11 := r11.below hbn)
  (try replace ra := ra.below hbn)
  (try replace rb := rb.below hbn)
  have n58s := hE 10 (by kernel_rfl)
  change RSE _ _ _ _ at n58s
  refine wp_callF rfl (enters_of Tryz.func28 (by kernel_rfl) rfl) (by simp only [Act.eval, evlS]; rfl) ?_
  refine (R_Same14 _ _ (shS DX DY S) (shS DX DY S) true wn ts n58s TN.out TN.out (decide_eq_true (EqS.eq.2 rfl))).mono ?_
  rintro e wm ⟨rfl, hbm⟩
  refine ⟨_, rfl, ?_⟩
  have hz := hKx () wm trivial hbm
  dsimp only [detS] at hz
  exact hz
 rintro ⟨⟩
 dsimp only [detS]
 simp only [putS]
 refine crk 2 ?_
 refine wpRL_nil ?_
 intro wn hbn hE
 have hsz := B.size
 have hzn := hbn.size
 replace B := B.trans (hbn.mono B.size)
 (try replace lm := lm.below hbn)
 (try replace rs := rs.below hbn)
 (try replace r8 := r8.below hbn)
 (try replace ts := ts.below hbn)
 (try replace r11 := r11.below hbn)
 (try replace ra := ra.below hbn)
 (try replace rb := rb.below hbn)
 have n58s := hE 10
 change RSE _ _ _ _ at n58s
 clear hE
 try simp only [List.drop_succ_cons, List.drop_zero]
 refine NoPan.normal ?_
 clear q0
 go_upto_region 12 with fail
 refine wp_region_lit ?_
 try simp only [gelS]
 refine chk 1 ?_
 refine wpList_nil ?_
 go_wp2
 go_loopw [16] (fun iv wr => ∃ k : Nat, k ≤ D.length ∧ iv = .int .i64 (k : Int) ∧ Below w.heap.size w wr ∧ LimAt wr ∧ RSE spE (.slice a1 S.pts.length c1) S.pts wr ∧ AtB 30 wr b_r8 (stC (.slice a1 S.pts.length c1) S) ∧ RSE spE (.slice a2 n2 c2) (shS DX DY S).pts wr ∧ AtB 30 wr b_r11 (stC (.slice a2 n2 c2) (shS DX DY S)) ∧ RSE dbE (.slice a3 D.length c3) D wr ∧ RSE dbE (.slice a4 D.length c4) T wr) (fun iv _ => (D.length - intOf iv).toNat)
 case atStart => exact ⟨0, by omega, rfl, B, lm, rs, r8, ts, r11, ra, rb⟩
 case round =>
  clear B lm rs r8 ts r11 ra rb
  obtain ⟨k, hk, rfl, B, lm, rs, r8, ts, r11, ra, rb⟩ := hrel
  by_cases hkl : k < D.length
  ·have q1 : decide ((k : Int) < (D.length : Int)) = true := decide_eq_true (by omega)
   have q2 : decide (k < D.length) = true := decide_eq_true hkl
   have hkt : k < T.length := by rw [DN.out]; exact hkl
   obtain ⟨g, o, e1, pc⟩ := ra.at (by omega)
   subst e1
   obtain ⟨g2, o2, e2, pt⟩ := rb.at (by omega)
   subst e2
   obtain ⟨⟨dx, dy, dr⟩, hat⟩ : ∃ p, D[k]? = some p := ⟨_, List.getElem?_eq_getElem hkl⟩
   have hbt : T[k]? = some ⟨dx + 16 * DX, dy + 16 * DY, dr⟩ := by rw [← HTT.out, List.getElem?_map, hat]; rfl
   obtain ⟨o1, o3, o4, o5, o6, o7⟩ := OKD.out _ (List.mem_of_getElem? hat)
   have HCV := Lib.hid (COV.out _ (List.mem_of_getElem? hat))
   obtain ⟨n, hn⟩ : ∃ n, covD ⟨dx, dy, dr⟩ (X - 30) (Y - 30) = n := ⟨_, rfl⟩
   have HN1 := Lib.hid hn
   have HN2 := Lib.hid (show covD ⟨dx + 16 * DX, dy + 16 * DY, dr⟩ (X - 30 + DX) (Y - 30 + DY) = n from HCV.out.trans hn)
   clear hn
   simp only at o1 o3 o4 o5 o6 o7
   go_upto_region 13 with fail
   refine wp_region_lit ?_
   try simp only [gelS]
   refine chk 2 ?_
   refine wpList_lenS (by first | rfl | simp [Region.wanted, yielded]) rfl Tryz.underlying35 rfl ?_
   simp only [putS]
   refine chk 1 ?_
   refine wpList_nil ?_
   have q3 : ((dx + 16 * DX) != (dx + 16 * DX)) = false := by simp
   have q4 : ((dy + 16 * DY) != (dy + 16 * DY)) = false := by simp
   have q5 : (dr != dr) = false := by simp
   have q6 : (n != n) = false := by simp
   go_upto_region 15 with fail
   try simp only [gelS]
   try have lx_lm := lm.lt
   try have lx_rs := rs.lt
   try have lx_r8 := r8.lt
   try have lx_ts := ts.lt
   try have lx_r11 := r11.lt
   try have lx_ra := ra.lt
   try have lx_rb := rb.lt
   try have lx_pc := pc.lt
   try have lx_pt := pt.lt
   refine wp_region_RL 64 [(54, detS ?v2_54), (61, detS ?v2_61)] (by kernel_rfl) (by kernel_rfl) (by kernel_rfl) ?_
   rotate_left 2
   simp only [takS, Nat.reduceAdd]
   refine crq 54 ?_
   repeat (first | go_big_quiet_skip | (go_big_quiet_want; first | ((first | refine quiet_loadAny (t := 3) rfl _ _ _ rfl (fun w hw => run_load_int (dbE_r0 (ov_rce pt w hw) hbt)) (by first | rfl | omega) ?_ | refine quiet_loadAny (t := 3) rfl _ _ _ rfl (fun w hw => run_load_int (dbE_r1 (ov_rce pt w hw) hbt)) (by first | rfl | omega) ?_ | refine quiet_loadAny (t := 3) rfl _ _ _ rfl (fun w hw => run_load_int (dbE_r2 (ov_rce pt w hw) hbt)) (by first | rfl | omega) ?_ | refine quiet_loadAny (t := 3) rfl _ _ _ rfl (fun w hw => run_load_int (dbE_r0 (ov_rce pc w hw) hat)) (by first | rfl | omega) ?_ | refine quiet_loadAny (t := 3) rfl _ _ _ rfl (fun w hw => run_load_int (dbE_r1 (ov_rce pc w hw) hat)) (by first | rfl | omega) ?_ | refine quiet_loadAny (t := 3) rfl _ _ _ rfl (fun w hw => run_load_int (dbE_r2 (ov_rce pc w hw) hat)) (by first | rfl | omega) ?_ | refine quiet_loadAny (t := 45) rfl _ _ _ rfl (fun w hw => (ov_rce pt w hw).load Tryz.isAgg45 hbt) (by first | rfl | omega) ?_ | refine quiet_loadAny (t := 45) rfl _ _ _ rfl (fun w hw => (ov_rce pc w hw).load Tryz.isAgg45 hat) (by first | rfl | omega) ?_ | refine qB ?_ | refine qC ?_); simp only [putS]; go_big_quiet_on) | (go_big_quiet_op; go_big_quiet_on)))
   refine wpQuiet_nil ?_
   refine wpRL_callB (by rfl) ?hw2_54 ?_ ?_
   case hw2_54 => kernel_rfl
   ·intro wn hbn hE Kx hKx
    have hsz := B.size
    have hzn := hbn.size
    replace B := B.trans (hbn.mono B.size)
    (try replace lm := lm.below hbn)
    (try replace rs := rs.below hbn)
    (try replace r8 := r8.below hbn)
    (try replace ts := ts.below hbn)
    (try replace r11 := r11.below hbn)
    (try replace ra := ra.below hbn)
    (try replace rb := rb.below hbn)
    (try replace pc := pc.below hbn)
    (try replace pt := pt.below hbn)
    refine wp_callF rfl (enters_of Tryz.func24 (by kernel_rfl) rfl) (by simp only [Act.eval, evlS]; rfl) ?_
    refine (P_Cover ⟨dx + 16 * DX, dy + 16 * DY, dr⟩ (X - 30 + DX) (Y - 30 + DY) n wn (by simp only; omega) (by simp only; omega) (by simp only; omega) HN2.out).mono ?_
    rintro e wm ⟨rfl, hbm⟩
    refine ⟨_, rfl, ?_⟩
    have hz := hKx () wm trivial hbm
    dsimp only [detS] at hz
    exact hz
   rintro ⟨⟩
   dsimp only [detS]
   simp only [putS]
   refine crq 6 ?_
   repeat (first | go_big_quiet_skip | (go_big_quiet_want; first | ((first | refine quiet_loadAny (t := 45) rfl _ _ _ rfl (fun w hw => (ov_rce pt w hw).load Tryz.isAgg45 hbt) (by first | rfl | omega) ?_ | refine quiet_loadAny (t := 45) rfl _ _ _ rfl (fun w hw => (ov_rce pc w hw).load Tryz.isAgg45 hat) (by first | rfl | omega) ?_ | refine qB ?_ | refine qC ?_); simp only [putS]; go_big_quiet_on) | (go_big_quiet_op; go_big_quiet_on)))
   refine wpQuiet_nil ?_
   refine wpRL_callB (by rfl) ?hw2_61 ?_ ?_
   case hw2_61 => kernel_rfl
   ·intro wn hbn hE Kx hKx
    have hsz := B.size
    have hzn := hbn.size
    replace B := B.trans (hbn.mono B.size)
    (try replace lm := lm.below hbn)
    (try replace rs := rs.below hbn)
    (try replace r8 := r8.below hbn)
    (try replace ts := ts.below hbn)
    (try replace r11 := r11.below hbn)
    (try replace ra := ra.below hbn)
    (try replace rb := rb.below hbn)
    refine wp_callF rfl (enters_of Tryz.func24 (by kernel_rfl) rfl) (by simp only [Act.eval, evlS]; rfl) ?_
    refine (P_Cover ⟨dx, dy, dr⟩ (X - 30) (Y - 30) n wn (by simp only; omega) (by simp only; omega) (by simp only; omega) HN1.out).mono ?_
    rintro e wm ⟨rfl, hbm⟩
    refine ⟨_, rfl, ?_⟩
    have hz := hKx () wm trivial hbm
    dsimp only [detS] at hz
    exact hz
   rintro ⟨⟩
   dsimp only [detS]
   simp only [putS]
   refine crk 2 ?_
   refine wpRL_nil ?_
   intro wn hbn hE
   have hsz := B.size
   have hzn := hbn.size
   replace B := B.trans (hbn.mono B.size)
   (try replace lm := lm.below hbn)
   (try replace rs := rs.below hbn)
   (try replace r8 := r8.below hbn)
   (try replace ts := ts.below hbn)
   (try replace r11 := r11.below hbn)
   (try replace ra := ra.below hbn)
   (try replace rb := rb.below hbn)
   clear hE
   try simp only [List.drop_succ_cons, List.drop_zero]
   refine NoPan.normal ?_
   clear q3 q4 q5 q6
   go_upto_region 14 with fail
   refine wp_region_lit ?_
   try simp only [gelS]
   refine chk 3 ?_
   refine wpList_nil ?_
   go_wp2
   go_roundw
   case rel => exact ⟨k + 1, by omega, by go_num, B, lm, rs, r8, ts, r11, ra, rb⟩
   case measure => simp [intOf]; omega
  ·have q1 : decide ((k : Int) < (D.length : Int)) = false := decide_eq_false (by omega)
   have q2 : decide (k < D.length) = false := decide_eq_false hkl
   clear ra rb
   go_upto_region 13 with fail
   refine wp_region_lit ?_
   try simp only [gelS]
   refine chk 2 ?_
   refine wpList_lenS (by first | rfl | simp [Region.wanted, yielded]) rfl Tryz.underlying35 rfl ?_
   simp only [putS]
   refine chk 1 ?_
   refine wpList_nil ?_
   go_upto_region 17 with fail
   refine wp_region_lit ?_
   try simp only [gelS]
   (refine wpList_val rfl (.agg #[.slice none 0 0]) (by first | rfl | kernel_rfl | simp [go_sem, Act.eval]) ?_; simp only [putS])
   refine chk 1 ?_
   refine clF (enters_of Tryz.func30 (by kernel_rfl) rfl) (c := P_PaintA _ _ S [] K1 0 _ lm (RS.nil _) TokL.nil (Nat.zero_le _) rs MN.out OK1.out HK1.out) (h := ?_)
   rintro e wn ⟨a5, c5, rfl, rs1, hbn⟩
   have hsz := B.size
   have hzn := hbn.size
   replace B := B.trans (hbn.mono B.size)
   (try replace lm := lm.below hbn)
   (try replace rs := rs.below hbn)
   (try replace r8 := r8.below hbn)
   (try replace ts := ts.below hbn)
   (try replace r11 := r11.below hbn)
   refine ⟨_, rfl, ?_⟩
   simp only [putS]
   refine chk 3 ?_
   obtain ⟨wK, hK⟩ : ∃ z, z = wn := ⟨_, rfl⟩
   subst hK
   have BG := B
   have hwsK := BG.size
   have B := Below.refl wK.heap.size wK
   have H_lm := Lib.hid lm
   have H_rs := Lib.hid rs
   have H_r8 := Lib.hid r8
   have H_ts := Lib.hid ts
   have H_r11 := Lib.hid r11
   have H_rs1 := Lib.hid rs1
   try simp only [gelS]
   (refine wpList_allocBk (t := 64) rfl _ (run_alloc_R _ _ rfl) (alK B ?_); clear B; intro b_r17 wn hle hge r17 hbn hsz hln B; simp only [putS])
   (refine wpList_storeB (t := 64) rfl _ _ rfl _ rfl _ rfl r17 (by kernel_rfl) rfl (by simp [Value.oneCell']) (stK B (by omega) ?_); clear r17 B; intro wn r17 hcn hsz hzn B; simp only [putS])
   refine chk 1 ?_
   refine wpList_nil ?_
   clear lm
   clear rs
   clear r8
   clear ts
   clear r11
   clear rs1
   have lm := by first | exact H_lm.out.below B | exact H_lm.out.of_eq (B.block _ H_lm.out.lt)
   have rs := by first | exact H_rs.out.below B | exact H_rs.out.of_eq (B.block _ H_rs.out.lt)
   have r8 := by first | exact H_r8.out.below B | exact H_r8.out.of_eq (B.block _ H_r8.out.lt)
   have ts := by first | exact H_ts.out.below B | exact H_ts.out.of_eq (B.block _ H_ts.out.lt)
   have r11 := by first | exact H_r11.out.below B | exact H_r11.out.of_eq (B.block _ H_r11.out.lt)
   have rs1 := by first | exact H_rs1.out.below B | exact H_rs1.out.of_eq (B.block _ H_rs1.out.lt)
   clear H_lm
   clear H_rs
   clear H_r8
   clear H_ts
   clear H_r11
   clear H_rs1
   have B0 := BG.trans (B.mono hwsK)
   clear B BG hwsK
   have B := B0
   clear B0
   go_upto_region 18 with fail
   refine wp_region_lit ?_
   try simp only [gelS]
   (refine wpList_val rfl (.agg #[.slice none 0 0]) (by first | rfl | kernel_rfl | simp [go_sem, Act.eval]) ?_; simp only [putS])
   refine chk 1 ?_
   refine clF (enters_of Tryz.func30 (by kernel_rfl) rfl) (c := P_PaintA _ _ (shS DX DY S) [] K2 0 _ lm (RS.nil _) TokL.nil (Nat.zero_le _) ts TN2.out OK2.out HK2.out) (h := ?_)
   rintro e wn ⟨a6, c6, rfl, rs2, hbn⟩
   have hsz := B.size
   have hzn := hbn.size
   replace B := B.trans (hbn.mono B.size)
   (try replace lm := lm.below hbn)
   (try replace ts := ts.below hbn)
   (try replace r11 := r11.below hbn)
   (try replace rs1 := rs1.below hbn)
   (try replace r17 := r17.below hbn)
   refine ⟨_, rfl, ?_⟩
   simp only [putS]
   refine chk 3 ?_
   obtain ⟨wK, hK⟩ : ∃ z, z = wn := ⟨_, rfl⟩
   subst hK
   have BG := B
   have hwsK := BG.size
   have B := Below.refl wK.heap.size wK
   have H_lm := Lib.hid lm
   have H_ts := Lib.hid ts
   have H_r11 := Lib.hid r11
   have H_rs1 := Lib.hid rs1
   have H_r17 := Lib.hid r17
   have H_rs2 := Lib.hid rs2
   try simp only [gelS]
   (refine wpList_allocBk (t := 64) rfl _ (run_alloc_R _ _ rfl) (alK B ?_); clear B; intro b_r19 wn hle hge r19 hbn hsz hln B; simp only [putS])
   (refine wpList_storeB (t := 64) rfl _ _ rfl _ rfl _ rfl r19 (by kernel_rfl) rfl (by simp [Value.oneCell']) (stK B (by omega) ?_); clear r19 B; intro wn r19 hcn hsz hzn B; simp only [putS])
   refine chk 1 ?_
   refine wpList_nil ?_
   clear lm
   clear ts
   clear r11
   clear rs1
   clear r17
   clear rs2
   have lm := by first | exact H_lm.out.below B | exact H_lm.out.of_eq (B.block _ H_lm.out.lt)
   have ts := by first | exact H_ts.out.below B | exact H_ts.out.of_eq (B.block _ H_ts.out.lt)
   have r11 := by first | exact H_r11.out.below B | exact H_r11.out.of_eq (B.block _ H_r11.out.lt)
   have rs1 := by first | exact H_rs1.out.below B | exact H_rs1.out.of_eq (B.block _ H_rs1.out.lt)
   have r17 := by first | exact H_r17.out.below B | exact H_r17.out.of_eq (B.block _ H_r17.out.lt)
   have rs2 := by first | exact H_rs2.out.below B | exact H_rs2.out.of_eq (B.block _ H_rs2.out.lt)
   clear H_lm
   clear H_ts
   clear H_r11
   clear H_rs1
   clear H_r17
   clear H_rs2
   have B0 := BG.trans (B.mono hwsK)
   clear B BG hwsK
   have B := B0
   clear B0
   go_upto_region 19 with fail
   try simp only [gelS]
   try have lx_rs1 := rs1.lt
   try have lx_r17 := r17.lt
   try have lx_rs2 := rs2.lt
   try have lx_r19 := r19.lt
   refine wp_region_RL 25 [(17, detS ?v3_17), (21, detS ?v3_21)] (by kernel_rfl) (by kernel_rfl) (by kernel_rfl) ?_
   rotate_left 2
   simp only [takS, Nat.reduceAdd]
   refine crk 17 ?_
   refine wpRL_callB (by rfl) ?hw3_17 ?_ ?_
   case hw3_17 => kernel_rfl
   ·intro wn hbn hE Kx hKx
    have hsz := B.size
    have hzn := hbn.size
    replace B := B.trans (hbn.mono B.size)
    (try replace rs1 := rs1.below hbn)
    (try replace r17 := r17.below hbn)
    (try replace rs2 := rs2.below hbn)
    (try replace r19 := r19.below hbn)
    refine wp_callF rfl (enters_of Tryz.func31 (by kernel_rfl) rfl) (by simp only [Act.eval, evlS]; rfl) ?_
    refine (P_GetL _ K2 (X - 30 + DX) (Y - 30 + DY) ⟨pr, pg, pb, pa⟩ wn rs2 nK2.out (by omega) (by omega) HP2.out).mono ?_
    rintro e wm ⟨rfl, hbm⟩
    refine ⟨_, rfl, ?_⟩
    have hz := hKx () wm trivial hbm
    dsimp only [detS] at hz
    exact hz
   rintro ⟨⟩
   dsimp only [detS]
   simp only [putS]
   refine crk 3 ?_
   refine wpRL_callB (by rfl) ?hw3_21 ?_ ?_
   case hw3_21 => kernel_rfl
   ·intro wn hbn hE Kx hKx
    have hsz := B.size
    have hzn := hbn.size
    replace B := B.trans (hbn.mono B.size)
    (try replace rs1 := rs1.below hbn)
    refine wp_callF rfl (enters_of Tryz.func31 (by kernel_rfl) rfl) (by simp only [Act.eval, evlS]; rfl) ?_
    refine (P_GetL _ K1 (X - 30) (Y - 30) ⟨pr, pg, pb, pa⟩ wn rs1 nK1.out (by omega) (by omega) HP1.out).mono ?_
    rintro e wm ⟨rfl, hbm⟩
    refine ⟨_, rfl, ?_⟩
    have hz := hKx () wm trivial hbm
    dsimp only [detS] at hz
    exact hz
   rintro ⟨⟩
   dsimp only [detS]
   simp only [putS]
   refine crk 3 ?_
   refine wpRL_nil ?_
   intro wn hbn hE
   have hsz := B.size
   have hzn := hbn.size
   replace B := B.trans (hbn.mono B.size)
   clear hE
   try simp only [List.drop_succ_cons, List.drop_zero]
   refine NoPan.normal ?_
   go_wp2
   go_ret
   exact ⟨rfl, B⟩
namespace strokeShift
open Go.ChangeShapes Go.WideShapes Go.ChangeAt Go.RowKit
open Go.ChangeMaps (open_string shut_string)
set_option maxRecDepth 100000 in
theorem lifted (os : Os) (started : os.Started) (H : Type) (enc : TypeId × Value → H) :
  ReturnsInHanded {} Tryz.checked os 10 .any (fun w args => (Rows.strokeShiftSpec.pre enc Tryz.prog Tryz.f10 [] false w args ∧ laidMetH Tryz.prog laidD w) ∧ sizedMet enc Tryz.prog Tryz.f10 (OpenSpec.ofChange Rows.strokeShiftSpec) false w args) (Rows.strokeShiftSpec.post enc Tryz.prog Tryz.f10 false true false false) := by
 refine returnsInHanded_of_change_and (C := Tryz.checked) (X := fun w _ => laidMetH Tryz.prog laidD w) (fun _ _ _ hh h => h.of_heap hh) own started (by kernel_rfl) Tryz.func10
  (ChangeSpec.witness_shaped (enc := enc) (C := Tryz.checked) (os := os) (X := fun w _ => laidMetH Tryz.prog laidD w) false (World.doorLaid Tryz.prog 400 os) #[.slice none 0 0, .agg #[.int .i64 0, .int .i64 0], .agg #[.int .i64 0, .int .i64 0]] 8 rfl (World.shaped_of_RefB (by kernel_rfl) (by kernel_rfl)) (by kernel_rfl) (by kernel_rfl) (by kernel_rfl) (door_met os _)) ?_
 intro W base args ds gs before hval0 hW _ hsz0 hL _
 have hlm := lim_of_laid hL
 have hval : ∀ (j : Nat) t v, Tryz.f10.params[j]? = some t → args[j]? = some v → Value.okWide Tryz.prog W .any base t v := hval0
 have hW' := hW
 obtain ⟨p, q, hA0, hV, rfl, hfz, hnd⟩ := hW
 have hA : DataW.TrodAll enc Tryz.prog W 0 (fun _ => true) true Tryz.f10.params.toList args.toList ds p := hA0
 rw [Tryz.params10] at hA hval hsz0
 obtain ⟨v0, vs0, d0, ds0, p0, q0, hargs, rfl, rfl, h0, r0⟩ := trodAll_cons hA
 obtain ⟨v1, vs1, d1, ds1, p1, q1, rfl, rfl, rfl, h1, r1⟩ := trodAll_cons r0
 obtain ⟨v2, vs2, d2, ds2, p2, q2, rfl, rfl, rfl, h2, r2⟩ := trodAll_cons r1
 obtain ⟨rfl, rfl, rfl⟩ := trodAll_nil r2
 obtain rfl : args = #[v0, v1, v2] := by cases args; simp_all
 obtain ⟨rfl, rfl⟩ := trodVars_none hV
 have hwt0 : ∀ n ∈ DataW.weights Tryz.prog 22 d0, n ≤ reachBytes := fun n hn => by simpa using List.all_eq_true.1 hsz0 n (DataW.weights_mem_each (j := 0) rfl rfl n hn)
 have k0 := h0
 have lt0 : ∀ x ∈ p0, x.block < W.heap.size := by obtain ⟨m, hm⟩ := k0; exact DataW.trod_lt m _ _ _ hm
 have k1 := h1
 have lt1 : ∀ x ∈ p1, x.block < W.heap.size := by obtain ⟨m, hm⟩ := k1; exact DataW.trod_lt m _ _ _ hm
 have k2 := h2
 have lt2 : ∀ x ∈ p2, x.block < W.heap.size := by obtain ⟨m, hm⟩ := k2; exact DataW.trod_lt m _ _ _ hm
 obtain ⟨L0, hL0, hLn0⟩ := open_ints1 (hval 0 22 v0 rfl rfl) h0 hwt0
 obtain ⟨a1, b1, rfl, w1⟩ := open_int2 (hval 1 61 v1 rfl rfl) h1
 obtain ⟨a2, b2, rfl, w2⟩ := open_int2 (hval 2 61 v2 rfl rfl) h2
 clear hA0 hval0
 refine (walk_StrokeShift v0 L0 a1 b1 a2 b2  W hlm hL0 hLn0).mono fun e W' ⟨he, bel⟩ => ?_
 subst he
 exact ⟨_, rfl, _, _, _, [], _, [], hW', trodAll_mk1 (shut_bool Tryz.underlying4 _), (trodAll_cons_mk (Below.trod laidOut (by kernel_rfl) (of_decide_eq_true (by kernel_rfl)) k0 bel lt0) (trodAll_cons_mk (Below.trod laidOut (by kernel_rfl) (of_decide_eq_true (by kernel_rfl)) k1 bel lt1) (trodAll_cons_mk (Below.trod laidOut (by kernel_rfl) (of_decide_eq_true (by kernel_rfl)) k2 bel lt2) trodAll_mk0))), rfl, bel.frame _, fun h => by cases h⟩
theorem over : Rows.strokeShiftRow.holds Tryz.pinned (OpenSpec.ofChange Rows.strokeShiftSpec) :=
 OpenClaim.holds_of_wide 10 Tryz.f10 rfl rfl rfl rfl rfl rfl rfl ⟨rfl, rfl, rfl, rfl, rfl⟩ rfl rfl rfl rfl rfl (by kernel_rfl) Tryz.func10 (by kernel_rfl)
  (of_decide_eq_true (by kernel_rfl)) (by unfold Func.isWrapper; first | (rw [if_pos (by decide +kernel)]; kernel_rfl) | (rw [if_neg (by decide +kernel)]; exact ⟨rfl, rfl⟩))
  (fun os started H enc _ => lifted os started H enc)
/-- THE STATEMENT: StrokeShift returns true for every input, and its arguments read as they did; what the listed variable holds is tied to the program's text. -/
theorem proved : Rows.StrokeShiftCardSaid := by
 unfold Rows.StrokeShiftCardSaid Rows.strokeShiftCard
 exact Claim7.holds_tied_plain_at .later [] [.data] true _ false over (fun _ h => by cases h) (by kernel_rfl) (fun _ h => by cases h) strokeShift_row_tie rfl ⟨rfl, rfl⟩ (by kernel_rfl) rfl
  (fun f fn hf hfn => by
   obtain rfl : f = 10 := Option.some.inj ((show Tryz.prog.funcNamed "gouache/gouachelaw14.StrokeShift" = some 10 by kernel_rfl).symm.trans hf) |>.symm
   obtain rfl : fn = Tryz.f10 := (Option.some.inj (Tryz.func10.symm.trans hfn)).symm
   exact ⟨by kernel_rfl, fun j t ht => by
    rw [Tryz.params10] at ht
    have hm : t ∈ [22, 61, 61] := by simpa using Array.mem_of_getElem? ht
    have hall : ([22, 61, 61].all fun u => !Tryz.prog.wantsStandIn u) = true := by kernel_rfl
    exact (show Tryz.prog.wantsStandIn t = false by simpa using List.all_eq_true.1 hall t hm)⟩)
  (by kernel_rfl)
end strokeShift
end Go.Proofs.YtepelndbbhdofaaGreatDoor
