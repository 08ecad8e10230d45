import Derived.Test.YtepelndbbhdofaaGreatDoorKa4

/- Num of octet's reader; number of the reference. -/
namespace Go.Proofs.YtepelndbbhdofaaGreatDoor
open Go.RowKit Sha Pl
set_option linter.unusedVariables false
set_option linter.unusedSimpArgs false
set_option maxRecDepth 20000
theorem Qg (l : List UInt8) (i : Nat) (fl : Bool) (b : Nat) (z : Int) (m : Nat) (x : List UInt8) (i2 : Nat) (f2 : Bool) (w : World) (rd : zK 180 w b (JR l i fl)) (hl : l.length ≤ 100000000) (hi : i ≤ l.length) (hm : m ≤ 1000) (hz : z = m) (e : kS l (i, fl) m = (x, i2, f2)) : Calls Tryz.prog 88 #[.pointer (some ⟨b, 0, none⟩), .int .i64 z] w fun e w' => e = .returned (.string (yw x)) ∧ zK 180 w' b (JR l i2 f2) ∧ qV b w w' := by
 subst hz
 have := zdV l i fl b m w rd hl hi hm
 rw [e] at this
 exact this
theorem QJ (x : List UInt8) {k : Nat} (h : k < x.length) : beN (x.take (k + 1)) = 256 * beN (x.take k) + (x.getD k 0).toNat := by
 have e : x.take (k + 1) = x.take k ++ [x.getD k 0] := by
  rw [List.take_add_one, List.getElem?_eq_getElem h, List.getD_eq_getElem?_getD, List.getElem?_eq_getElem h]
  rfl
 rw [e, QI]
theorem or8 (n c : Nat) (hn : n < 1099511627776) (hc : c < 256) : bits .or .i64 ((n : Int) * 256) (c : Int) = ((256 * n + c : Nat) : Int) := by
 have e : bits .or .i64 ((n : Int) * 256) (c : Int) = IntKind.i64.wrap ((BitVec.ofInt 64 ((n : Int) * 256) ||| BitVec.ofInt 64 (c : Int)).toNat : Int) := rfl
 have h1 : (BitVec.ofInt 64 ((n : Int) * 256)).toNat = n <<< 8 := by
  rw [show ((n : Int) * 256) = ((n * 256 : Nat) : Int) by omega, BitVec.ofInt_natCast, BitVec.toNat_ofNat, Nat.mod_eq_of_lt (by omega), Nat.shiftLeft_eq]
 have h2 : (BitVec.ofInt 64 (c : Int)).toNat = c := by
  rw [BitVec.ofInt_natCast, BitVec.toNat_ofNat, Nat.mod_eq_of_lt (by omega)]
 rw [e, BitVec.toNat_or, h1, h2, ← Nat.shiftLeft_add_eq_or_of_lt (by omega) n, Nat.shiftLeft_eq]
 unfold IntKind.wrap
 simp [IntKind.bits, IntKind.signed]
 omega
theorem VK {w : World} {b : Nat} {l : List UInt8} (h : JP w b l) : ∀ w', (∃ u, w' = ov w u) → JP w' b l := by
 rintro w' ⟨u, rfl⟩
 exact h.of_eq ((qS w u).block _ h.lt)
theorem JP.u8 {w : World} {b : Nat} {l : List UInt8} (h : JP w b l) {k c : Nat} (hk : k < l.length) (hc : (l.getD k 0).toNat = c) : w.cell? ⟨b, k, none⟩ = some (.int .u8 (c : Int)) := by
 subst hc
 exact (h.2 k hk).1
set_option maxHeartbeats 1000000 in
theorem Xv (l : List UInt8) (i : Nat) (fl : Bool) (b : Nat) (x : List UInt8) (i2 : Nat) (f2 : Bool) (w : World) (rd : zK 180 w b (JR l i fl)) (hl : l.length ≤ 100000000) (hi : i ≤ l.length) (e : kS l (i, fl) 1 = (x, i2, f2)) : Calls Tryz.prog 87 #[.pointer (some ⟨b, 0, none⟩), .int .i64 1] w fun e w' => e = .returned (.int .i64 (beN x : Int)) ∧ zK 180 w' b (JR l i2 f2) ∧ qV b w w' := by
 have B := kH.refl b w
 have HT := Lib.hid e
 have hxl : x.length ≤ 1 := by have := Qv (l := l) (st := (i, fl)) (m := 1); rw [e] at this; exact this
 have hbl := rd.lt
 clear e
 go_enter Tryz.func87, Tryz.ntmps87
 go_upto_region 0 with fail
 refine wp_region_lit ?_
 refine zy 1 ?_
 refine wpList_nil ?_
 go_upto_region 1 with fail
 refine wp_region_lit ?_
 refine zy 1 ?_
 refine wpList_nil ?_
 go_upto_region 2 with fail
 refine wp_region_lit ?_
 refine zy 2 ?_
 refine je (enters_of Tryz.func138 (by kernel_rfl) rfl) (c := Wg _) (h := ?_)
 rintro e wn ⟨rfl, rfl⟩
 refine ⟨_, rfl, ?_⟩
 simp only [zo]
 refine je (enters_of Tryz.func88 (by kernel_rfl) rfl) (c := Qg l i fl b 1 1 x i2 f2 _ rd hl hi (by omega) rfl HT.out) (h := ?_)
 rintro e wn ⟨rfl, rd2, ze⟩
 have zf := B.size
 have zg := ze.size
 replace B := kH.chg B ze
 clear rd
 have rd := rd2
 clear rd2
 refine ⟨_, rfl, ?_⟩
 simp only [zo]
 (refine ve rfl _ rfl x rfl ?_; intro b_fb cap wn zb zd fb za zg; have zf := B.size; replace B := B.trans (za.mono (by omega)); replace rd := rd.of_eq (za.block _ (by omega)); simp only [zo])
 refine zw (by first | rfl | simp [Region.wanted, yielded]) rfl Tryz.underlying75 rfl ?_
 simp only [zo]
 refine zy 1 ?_
 refine wpList_nil ?_
 have kb : b < b_fb := by omega
 go_wp2
 go_loopw [5, 7, 14] (fun nv _ iv wr => ∃ k : Nat, k ≤ x.length ∧ iv = .int .i64 (k : Int) ∧ nv = .int .i64 (beN (x.take k) : Int) ∧ JP wr b_fb x ∧ zK 180 wr b (JR l i2 f2) ∧ kH b w.heap.size w wr) (fun _ _ iv _ => (x.length - intOf iv).toNat)
 case atStart => exact ⟨0, by omega, rfl, rfl, fb, rd, B⟩
 case round =>
  clear fb rd B; obtain ⟨k, hk, rfl, rfl, fb, rd, B⟩ := hrel; by_cases hk1 : k < x.length
  ·have q1 : decide ((k : Int) < (x.length : Int)) = true := decide_eq_true (by omega)
   have q2 : decide (k < x.length) = true := decide_eq_true hk1; have hst := QJ x hk1; have hbn1 := QH (x.take k); have hbn2 : beN (x.take k) < 16777216 := Nat.lt_of_lt_of_le hbn1 (by rw [List.length_take, show (16777216 : Nat) = 256 ^ 3 from rfl]; exact Nat.pow_le_pow_right (by omega) (by omega))
   have hcb := (x.getD k 0).toNat_lt
   generalize beN (x.take k) = n at *
   obtain ⟨c, hc⟩ : ∃ c, (x.getD k 0).toNat = c := ⟨_, rfl⟩; rw [hc] at hst hcb; have HC := Lib.hid hc; clear hc; have hor := or8 n c (by omega) hcb; go_upto_region 3 with fail
   refine wp_region_lit ?_; refine zy 1 ?_; refine wpList_nil ?_; go_upto_region 4 with fail
   refine wp_region_lit ?_; refine j4 3 ?_; repeat (first | go_big_quiet_skip | (go_big_quiet_want; first | ((first | refine zn (t := 5) rfl _ _ _ rfl (fun w hw => wD ((VK fb w hw).u8 hk1 HC.out)) (by first | rfl | omega) ?_ | refine qB ?_ | refine qC ?_); simp only [zo]; go_big_quiet_on) | (go_big_quiet_op; go_big_quiet_on)))
   refine wpQuiet_nil ?_; refine wpList_nil ?_; go_upto_region 5 with fail
   refine wp_region_lit ?_; refine zy 6 ?_; refine wpList_nil ?_; go_upto_region 6 with fail
   refine wp_region_lit ?_; refine zy 2 ?_; refine wpList_nil ?_; go_wp2; go_roundw
   case rel => exact ⟨k + 1, by omega, by go_num, by rw [hst]; go_num, fb, rd, B⟩
   case measure => simp [intOf]; omega
  ·have q1 : decide ((k : Int) < (x.length : Int)) = false := decide_eq_false (by omega)
   have q2 : decide (k < x.length) = false := decide_eq_false hk1; have hkx : x.take k = x := List.take_of_length_le (by omega); rw [hkx]; go_upto_region 3 with fail
   refine wp_region_lit ?_; refine zy 1 ?_; refine wpList_nil ?_; go_upto_region 7 with fail
   refine wp_region_lit ?_; refine zy 2 ?_; refine wpList_nil ?_; go_wp2; go_ret; exact ⟨rfl, rd, B.toChg⟩
set_option maxHeartbeats 1000000 in
theorem Wa (l : List UInt8) (i : Nat) (fl : Bool) (b : Nat) (x : List UInt8) (i2 : Nat) (f2 : Bool) (w : World) (rd : zK 180 w b (JR l i fl)) (hl : l.length ≤ 100000000) (hi : i ≤ l.length) (e : kS l (i, fl) 2 = (x, i2, f2)) : Calls Tryz.prog 87 #[.pointer (some ⟨b, 0, none⟩), .int .i64 2] w fun e w' => e = .returned (.int .i64 (beN x : Int)) ∧ zK 180 w' b (JR l i2 f2) ∧ qV b w w' := by
 have B := kH.refl b w
 have HT := Lib.hid e
 have hxl : x.length ≤ 2 := by have := Qv (l := l) (st := (i, fl)) (m := 2); rw [e] at this; exact this
 have hbl := rd.lt
 clear e
 go_enter Tryz.func87, Tryz.ntmps87
 go_upto_region 0 with fail
 refine wp_region_lit ?_
 refine zy 1 ?_
 refine wpList_nil ?_
 go_upto_region 1 with fail
 refine wp_region_lit ?_
 refine zy 1 ?_
 refine wpList_nil ?_
 go_upto_region 2 with fail
 refine wp_region_lit ?_
 refine zy 2 ?_
 refine je (enters_of Tryz.func138 (by kernel_rfl) rfl) (c := Wh _) (h := ?_)
 rintro e wn ⟨rfl, rfl⟩
 refine ⟨_, rfl, ?_⟩
 simp only [zo]
 refine je (enters_of Tryz.func88 (by kernel_rfl) rfl) (c := Qg l i fl b 2 2 x i2 f2 _ rd hl hi (by omega) rfl HT.out) (h := ?_)
 rintro e wn ⟨rfl, rd2, ze⟩
 have zf := B.size
 have zg := ze.size
 replace B := kH.chg B ze
 clear rd
 have rd := rd2
 clear rd2
 refine ⟨_, rfl, ?_⟩
 simp only [zo]
 (refine ve rfl _ rfl x rfl ?_; intro b_fb cap wn zb zd fb za zg; have zf := B.size; replace B := B.trans (za.mono (by omega)); replace rd := rd.of_eq (za.block _ (by omega)); simp only [zo])
 refine zw (by first | rfl | simp [Region.wanted, yielded]) rfl Tryz.underlying75 rfl ?_
 simp only [zo]
 refine zy 1 ?_
 refine wpList_nil ?_
 have kb : b < b_fb := by omega
 go_wp2
 go_loopw [5, 7, 14] (fun nv _ iv wr => ∃ k : Nat, k ≤ x.length ∧ iv = .int .i64 (k : Int) ∧ nv = .int .i64 (beN (x.take k) : Int) ∧ JP wr b_fb x ∧ zK 180 wr b (JR l i2 f2) ∧ kH b w.heap.size w wr) (fun _ _ iv _ => (x.length - intOf iv).toNat)
 case atStart => exact ⟨0, by omega, rfl, rfl, fb, rd, B⟩
 case round =>
  clear fb rd B; obtain ⟨k, hk, rfl, rfl, fb, rd, B⟩ := hrel; by_cases hk1 : k < x.length
  ·have q1 : decide ((k : Int) < (x.length : Int)) = true := decide_eq_true (by omega)
   have q2 : decide (k < x.length) = true := decide_eq_true hk1; have hst := QJ x hk1; have hbn1 := QH (x.take k); have hbn2 : beN (x.take k) < 16777216 := Nat.lt_of_lt_of_le hbn1 (by rw [List.length_take, show (16777216 : Nat) = 256 ^ 3 from rfl]; exact Nat.pow_le_pow_right (by omega) (by omega))
   have hcb := (x.getD k 0).toNat_lt
   generalize beN (x.take k) = n at *
   obtain ⟨c, hc⟩ : ∃ c, (x.getD k 0).toNat = c := ⟨_, rfl⟩; rw [hc] at hst hcb; have HC := Lib.hid hc; clear hc; have hor := or8 n c (by omega) hcb; go_upto_region 3 with fail
   refine wp_region_lit ?_; refine zy 1 ?_; refine wpList_nil ?_; go_upto_region 4 with fail
   refine wp_region_lit ?_; refine j4 3 ?_; repeat (first | go_big_quiet_skip | (go_big_quiet_want; first | ((first | refine zn (t := 5) rfl _ _ _ rfl (fun w hw => wD ((VK fb w hw).u8 hk1 HC.out)) (by first | rfl | omega) ?_ | refine qB ?_ | refine qC ?_); simp only [zo]; go_big_quiet_on) | (go_big_quiet_op; go_big_quiet_on)))
   refine wpQuiet_nil ?_; refine wpList_nil ?_; go_upto_region 5 with fail
   refine wp_region_lit ?_; refine zy 6 ?_; refine wpList_nil ?_; go_upto_region 6 with fail
   refine wp_region_lit ?_; refine zy 2 ?_; refine wpList_nil ?_; go_wp2; go_roundw
   case rel => exact ⟨k + 1, by omega, by go_num, by rw [hst]; go_num, fb, rd, B⟩
   case measure => simp [intOf]; omega
  ·have q1 : decide ((k : Int) < (x.length : Int)) = false := decide_eq_false (by omega)
   have q2 : decide (k < x.length) = false := decide_eq_false hk1; have hkx : x.take k = x := List.take_of_length_le (by omega); rw [hkx]; go_upto_region 3 with fail
   refine wp_region_lit ?_; refine zy 1 ?_; refine wpList_nil ?_; go_upto_region 7 with fail
   refine wp_region_lit ?_; refine zy 2 ?_; refine wpList_nil ?_; go_wp2; go_ret; exact ⟨rfl, rd, B.toChg⟩
set_option maxHeartbeats 1000000 in
theorem Xw (l : List UInt8) (i : Nat) (fl : Bool) (b : Nat) (x : List UInt8) (i2 : Nat) (f2 : Bool) (w : World) (rd : zK 180 w b (JR l i fl)) (hl : l.length ≤ 100000000) (hi : i ≤ l.length) (e : kS l (i, fl) 3 = (x, i2, f2)) : Calls Tryz.prog 87 #[.pointer (some ⟨b, 0, none⟩), .int .i64 3] w fun e w' => e = .returned (.int .i64 (beN x : Int)) ∧ zK 180 w' b (JR l i2 f2) ∧ qV b w w' := by
 have B := kH.refl b w
 have HT := Lib.hid e
 have hxl : x.length ≤ 3 := by have := Qv (l := l) (st := (i, fl)) (m := 3); rw [e] at this; exact this
 have hbl := rd.lt
 clear e
 go_enter Tryz.func87, Tryz.ntmps87
 go_upto_region 0 with fail
 refine wp_region_lit ?_
 refine zy 1 ?_
 refine wpList_nil ?_
 go_upto_region 1 with fail
 refine wp_region_lit ?_
 refine zy 1 ?_
 refine wpList_nil ?_
 go_upto_region 2 with fail
 refine wp_region_lit ?_
 refine zy 2 ?_
 refine je (enters_of Tryz.func138 (by kernel_rfl) rfl) (c := Wj _) (h := ?_)
 rintro e wn ⟨rfl, rfl⟩
 refine ⟨_, rfl, ?_⟩
 simp only [zo]
 refine je (enters_of Tryz.func88 (by kernel_rfl) rfl) (c := Qg l i fl b 3 3 x i2 f2 _ rd hl hi (by omega) rfl HT.out) (h := ?_)
 rintro e wn ⟨rfl, rd2, ze⟩
 have zf := B.size
 have zg := ze.size
 replace B := kH.chg B ze
 clear rd
 have rd := rd2
 clear rd2
 refine ⟨_, rfl, ?_⟩
 simp only [zo]
 (refine ve rfl _ rfl x rfl ?_; intro b_fb cap wn zb zd fb za zg; have zf := B.size; replace B := B.trans (za.mono (by omega)); replace rd := rd.of_eq (za.block _ (by omega)); simp only [zo])
 refine zw (by first | rfl | simp [Region.wanted, yielded]) rfl Tryz.underlying75 rfl ?_
 simp only [zo]
 refine zy 1 ?_
 refine wpList_nil ?_
 have kb : b < b_fb := by omega
 go_wp2
 go_loopw [5, 7, 14] (fun nv _ iv wr => ∃ k : Nat, k ≤ x.length ∧ iv = .int .i64 (k : Int) ∧ nv = .int .i64 (beN (x.take k) : Int) ∧ JP wr b_fb x ∧ zK 180 wr b (JR l i2 f2) ∧ kH b w.heap.size w wr) (fun _ _ iv _ => (x.length - intOf iv).toNat)
 case atStart => exact ⟨0, by omega, rfl, rfl, fb, rd, B⟩
 case round =>
  clear fb rd B; obtain ⟨k, hk, rfl, rfl, fb, rd, B⟩ := hrel; by_cases hk1 : k < x.length
  ·have q1 : decide ((k : Int) < (x.length : Int)) = true := decide_eq_true (by omega)
   have q2 : decide (k < x.length) = true := decide_eq_true hk1; have hst := QJ x hk1; have hbn1 := QH (x.take k); have hbn2 : beN (x.take k) < 16777216 := Nat.lt_of_lt_of_le hbn1 (by rw [List.length_take, show (16777216 : Nat) = 256 ^ 3 from rfl]; exact Nat.pow_le_pow_right (by omega) (by omega))
   have hcb := (x.getD k 0).toNat_lt
   generalize beN (x.take k) = n at *
   obtain ⟨c, hc⟩ : ∃ c, (x.getD k 0).toNat = c := ⟨_, rfl⟩; rw [hc] at hst hcb; have HC := Lib.hid hc; clear hc; have hor := or8 n c (by omega) hcb; go_upto_region 3 with fail
   refine wp_region_lit ?_; refine zy 1 ?_; refine wpList_nil ?_; go_upto_region 4 with fail
   refine wp_region_lit ?_; refine j4 3 ?_; repeat (first | go_big_quiet_skip | (go_big_quiet_want; first | ((first | refine zn (t := 5) rfl _ _ _ rfl (fun w hw => wD ((VK fb w hw).u8 hk1 HC.out)) (by first | rfl | omega) ?_ | refine qB ?_ | refine qC ?_); simp only [zo]; go_big_quiet_on) | (go_big_quiet_op; go_big_quiet_on)))
   refine wpQuiet_nil ?_; refine wpList_nil ?_; go_upto_region 5 with fail
   refine wp_region_lit ?_; refine zy 6 ?_; refine wpList_nil ?_; go_upto_region 6 with fail
   refine wp_region_lit ?_; refine zy 2 ?_; refine wpList_nil ?_; go_wp2; go_roundw
   case rel => exact ⟨k + 1, by omega, by go_num, by rw [hst]; go_num, fb, rd, B⟩
   case measure => simp [intOf]; omega
  ·have q1 : decide ((k : Int) < (x.length : Int)) = false := decide_eq_false (by omega)
   have q2 : decide (k < x.length) = false := decide_eq_false hk1; have hkx : x.take k = x := List.take_of_length_le (by omega); rw [hkx]; go_upto_region 3 with fail
   refine wp_region_lit ?_; refine zy 1 ?_; refine wpList_nil ?_; go_upto_region 7 with fail
   refine wp_region_lit ?_; refine zy 2 ?_; refine wpList_nil ?_; go_wp2; go_ret; exact ⟨rfl, rd, B.toChg⟩
/-- A byte of a string. -/
theorem ki {o : Oper} {a : Act} {C : World → Prop} {K : Act → Prop} {p i : Operand} (h : o.op = .index 9 p i) (x : List UInt8) (hx : a.eval p = .string (yw x)) (z : Int) (hi : a.eval i = .int .i64 z) (k c : Nat) (hk : k < x.length) (hz : z = k) (hc : (x.getD k 0).toNat = c) (hK : K (a.put o.dst (.int .u8 (c : Int)))) : o.quiet Tryz.prog a C K := by
 refine X0 (t := 9) h (yw x) hx z hi k (by rw [jD]; exact hk) hz ?_
 have e : Y (Zu (yw x) k) = .int .u8 (c : Int) := by
  subst hc
  rfl
 rw [e]
 exact hK
end Go.Proofs.YtepelndbbhdofaaGreatDoor
/- Contracts of the reference's SameDabs, Same. -/
namespace Go.Proofs.YtepelndbbhdofaaGreatDoor
open Go.RowKit Go.Shelf Pl
set_option linter.unusedVariables false
set_option linter.unusedSimpArgs false
set_option maxRecDepth 20000
theorem Y5 (d : Nat) (a b : Sp) (w : World) : (Op.equalIn (d + 2) 43 (.agg (j3.enc a)) (.agg (j3.enc b))).run Tryz.prog w = .ok (decide (a = b)) w := by
 obtain ⟨x, y, z⟩ := a
 obtain ⟨x', y', z'⟩ := b
 have h : (Op.equalIn (d + 2) 43 (.agg #[.int .i64 x, .int .i64 y, .int .i64 z]) (.agg #[.int .i64 x', .int .i64 y', .int .i64 z'])).run Tryz.prog w = .ok (x == x' && (y == y' && z == z')) w := by
  by_cases h1 : x = x' <;> by_cases h2 : y = y' <;> by_cases h3 : z = z' <;> simp [go_sem, h1, h2, h3]
 refine h.trans ?_
 congr 1
 rw [Bool.eq_iff_iff]
 simp
theorem zeJ (a b : Sp) (w : World) : (binOp .neq 43 (.agg (j3.enc a)) (.agg (j3.enc b))).run Tryz.prog w = .ok (.bool (!decide (a = b))) w := by
 have h := run_neq_struct (P := Tryz.prog) w 43 (j3.enc a) (j3.enc b)
 rw [h, Y5 9998 a b w]; rfl
theorem ui {o : Oper} {a : Act} {C : World → Prop} {K : Act → Prop} {p q : Operand} {t2 : TypeId} (h : o.op = .binOp .neq 43 p q t2) (x y : Sp) (hx : a.eval p = .agg (j3.enc x)) (hy : a.eval q = .agg (j3.enc y)) (b : Bool) (hb : decide (x = y) = !b) (hk : K (a.put o.dst (.bool b))) : o.quiet Tryz.prog a C K :=
 ⟨_, fun w hw => by
  have hg : (eqGuard .neq 43 p q (.agg (j3.enc x)) (.agg (j3.enc y))).run Tryz.prog w = .ok () w := run_eqGuard_agg w _ 43 p q _ _ (by kernel_rfl); unfold Oper.quietAt execOp; simp only [h, hx, hy, hg, zeJ, hb, Bool.not_not, Sem.run_bind, Sem.run_pure, Result.andThen_ok]; exact ⟨rfl, rfl⟩, hk⟩
theorem Y3 (d : Nat) (a b : Db) (w : World) : (Op.equalIn (d + 2) 45 (.agg (vZ.enc a)) (.agg (vZ.enc b))).run Tryz.prog w = .ok (decide (a = b)) w := by
 obtain ⟨x, y, z⟩ := a
 obtain ⟨x', y', z'⟩ := b
 have h : (Op.equalIn (d + 2) 45 (.agg #[.int .i64 x, .int .i64 y, .int .i64 z]) (.agg #[.int .i64 x', .int .i64 y', .int .i64 z'])).run Tryz.prog w = .ok (x == x' && (y == y' && z == z')) w := by
  by_cases h1 : x = x' <;> by_cases h2 : y = y' <;> by_cases h3 : z = z' <;> simp [go_sem, h1, h2, h3]
 refine h.trans ?_
 congr 1
 rw [Bool.eq_iff_iff]
 simp
theorem zeH (a b : Db) (w : World) : (binOp .neq 45 (.agg (vZ.enc a)) (.agg (vZ.enc b))).run Tryz.prog w = .ok (.bool (!decide (a = b))) w := by
 have h := run_neq_struct (P := Tryz.prog) w 45 (vZ.enc a) (vZ.enc b)
 rw [h, Y3 9998 a b w]; rfl
theorem uh {o : Oper} {a : Act} {C : World → Prop} {K : Act → Prop} {p q : Operand} {t2 : TypeId} (h : o.op = .binOp .neq 45 p q t2) (x y : Db) (hx : a.eval p = .agg (vZ.enc x)) (hy : a.eval q = .agg (vZ.enc y)) (b : Bool) (hb : decide (x = y) = !b) (hk : K (a.put o.dst (.bool b))) : o.quiet Tryz.prog a C K :=
 ⟨_, fun w hw => by
  have hg : (eqGuard .neq 45 p q (.agg (vZ.enc x)) (.agg (vZ.enc y))).run Tryz.prog w = .ok () w := run_eqGuard_agg w _ 45 p q _ _ (by kernel_rfl); unfold Oper.quietAt execOp; simp only [h, hx, hy, hg, zeH, hb, Bool.not_not, Sem.run_bind, Sem.run_pure, Result.andThen_ok]; exact ⟨rfl, rfl⟩, hk⟩
theorem WB {α : Type} {l m : List α} {i : Nat} (h : l[i]? ≠ m[i]?) : l ≠ m := fun e => h (by rw [e])
theorem zb9 {α : Type} {l m : List α} (hl : l.length = m.length) (h : ∀ i, i < l.length → l[i]? = m[i]?) : l = m := by
 refine List.ext_getElem? fun i => ?_
 by_cases hi : i < l.length
 ·exact h i hi
 ·rw [List.getElem?_eq_none (by omega), List.getElem?_eq_none (by omega)]
def zcg (l : List Db) (i : Nat) : Db := l.getD i ⟨0, 0, 0⟩
theorem QQ {l : List Db} {i : Nat} (h : i < l.length) : l[i]? = some (zcg l i) := by
 unfold zcg
 rw [List.getD_eq_getElem?_getD, List.getElem?_eq_getElem h]
 rfl
set_option maxHeartbeats 4000000 in
theorem Vs (v v' : Value) (l m : List Db) (b : Bool) (w : World) (h : xp vZ v l w) (h' : xp vZ v' m w) (hn : l.length ≤ 1000000) (hn' : m.length ≤ 1000000) (e : decide (l = m) = b) : Calls Tryz.prog 18 #[v, v'] w fun e w' => e = .returned (.bool b) ∧ Below w.heap.size w w' := by
 have B := Below.refl w.heap.size w
 obtain ⟨a1, c1, rfl, _⟩ := h.len
 obtain ⟨a2, c2, rfl, _⟩ := h'.len
 have H1 := Lib.hid h
 have H2 := Lib.hid h'
 have HE := Lib.hid e
 clear h h' e
 go_enter Tryz.func18, Tryz.ntmps18
 go_upto_region 1 with fail
 by_cases hlen : l.length = m.length
 ·have q0 : ((l.length : Int) != (m.length : Int)) = false := by rw [hlen]; simp
  have q0' : ((l.length : Int) == (m.length : Int)) = true := by rw [hlen]; simp
  refine wp_region_lit ?_; refine zy 1 ?_; refine zw (by first | rfl | simp [Region.wanted, yielded]) rfl Tryz.underlying35 rfl ?_; simp only [zo]; refine zy 1 ?_; refine zw (by first | rfl | simp [Region.wanted, yielded]) rfl Tryz.underlying35 rfl ?_; simp only [zo]; refine zy 1 ?_; refine wpList_nil ?_; go_upto_region 3 with fail
  refine wp_region_lit ?_; refine zy 1 ?_; refine wpList_nil ?_; go_wp2; go_loopw [5] (fun iv wr => ∃ k : Nat, k ≤ l.length ∧ iv = .int .i64 (k : Int) ∧ Hid (∀ i, i < k → l[i]? = m[i]?) ∧ Below w.heap.size w wr) (fun iv _ => (l.length - intOf iv).toNat)
  case atStart => exact ⟨0, by omega, rfl, Lib.hid fun i hi => absurd hi (by omega), B⟩
  case round =>
   clear B; obtain ⟨k, hk, rfl, HA, B⟩ := hrel; by_cases hkl : k < l.length
   ·have q1 : decide ((k : Int) < (l.length : Int)) = true := decide_eq_true (by omega)
    have q2 : decide (k < l.length) = true := decide_eq_true hkl; have hkm : k < m.length := by omega
    have q3 : decide ((k : Int) < (m.length : Int)) = true := decide_eq_true (by omega); have q4 : decide (k < m.length) = true := decide_eq_true hkm; obtain ⟨g1, o1, rfl, ca0⟩ := H1.out.at (by omega); obtain ⟨g2, o2, rfl, cb0⟩ := H2.out.at (by omega); have ca := ca0.of_eq (B.block _ ca0.lt); have cb := cb0.of_eq (B.block _ cb0.lt); clear ca0 cb0; have hp := QQ (l := l) hkl; have hp2 := QQ (l := m) hkm
    generalize hx1 : zcg l k = x1 at *
    generalize hx2 : zcg m k = x2 at *
    clear hx1 hx2; by_cases hxx : x1 = x2
    ·have q9 : decide (x1 = x2) = !false := decide_eq_true hxx
     have HN := Lib.hid (show ∀ i, i < k + 1 → l[i]? = m[i]? from fun i hi => by
      by_cases hik : i = k
      ·rw [hik, hp, hp2, hxx]
      ·exact HA.out i (by omega))
     clear hxx; go_upto_region 4 with fail
     refine wp_region_lit ?_; refine zy 2 ?_; refine zw (by first | rfl | simp [Region.wanted, yielded]) rfl Tryz.underlying35 rfl ?_; simp only [zo]; refine zy 1 ?_; refine wpList_nil ?_; go_upto_region 6 with fail
     try have lx_ca := ca.lt
     try have lx_cb := cb.lt
     refine zJ 9 [] (by kernel_rfl) (by kernel_rfl) (by kernel_rfl) ?_
     rotate_left 0
     simp only [jZ, Nat.reduceAdd]; refine ub 9 ?_; repeat (first | go_big_quiet_skip | (go_big_quiet_want; first | ((first | refine zn (t := 45) rfl _ _ _ rfl (fun w hw => (jX ca w hw).load Tryz.isAgg45 hp) (by first | rfl | omega) ?_ | refine zn (t := 45) rfl _ _ _ rfl (fun w hw => (jX cb w hw).load Tryz.isAgg45 hp2) (by first | rfl | omega) ?_ | refine uh rfl x1 x2 rfl rfl _ q9 ?_ | refine qB ?_ | refine qC ?_); simp only [zo]; go_big_quiet_on) | (go_big_quiet_op; go_big_quiet_on)))
     refine wpQuiet_nil ?_; refine qi ?_; intro wn za hE; have zf := B.size; have zg := za.size; replace B := B.trans (za.mono B.size)
     (try replace ca := ca.below za)
     (try replace cb := cb.below za)
     clear hE; try simp only [List.drop_succ_cons, List.drop_zero]
     refine zL.normal ?_; go_upto_region 5 with fail
     refine wp_region_lit ?_; refine zy 3 ?_; refine wpList_nil ?_; go_wp2; go_roundw
     case rel => exact ⟨k + 1, by omega, by go_num, HN, B⟩
     case measure => simp [intOf]; omega
    ·have q9 : decide (x1 = x2) = !true := decide_eq_false hxx
     have HN := Lib.hid (show ¬ l = m from WB (i := k) (by rw [hp, hp2]; intro h; injection h with h; exact hxx h))
     clear hxx; go_upto_region 4 with fail
     refine wp_region_lit ?_; refine zy 2 ?_; refine zw (by first | rfl | simp [Region.wanted, yielded]) rfl Tryz.underlying35 rfl ?_; simp only [zo]; refine zy 1 ?_; refine wpList_nil ?_; go_upto_region 6 with fail
     try have lx_ca := ca.lt
     try have lx_cb := cb.lt
     refine zJ 9 [] (by kernel_rfl) (by kernel_rfl) (by kernel_rfl) ?_
     rotate_left 0
     simp only [jZ, Nat.reduceAdd]; refine ub 9 ?_; repeat (first | go_big_quiet_skip | (go_big_quiet_want; first | ((first | refine zn (t := 45) rfl _ _ _ rfl (fun w hw => (jX ca w hw).load Tryz.isAgg45 hp) (by first | rfl | omega) ?_ | refine zn (t := 45) rfl _ _ _ rfl (fun w hw => (jX cb w hw).load Tryz.isAgg45 hp2) (by first | rfl | omega) ?_ | refine uh rfl x1 x2 rfl rfl _ q9 ?_ | refine qB ?_ | refine qC ?_); simp only [zo]; go_big_quiet_on) | (go_big_quiet_op; go_big_quiet_on)))
     refine wpQuiet_nil ?_; refine qi ?_; intro wn za hE; have zf := B.size; have zg := za.size; replace B := B.trans (za.mono B.size); clear hE; try simp only [List.drop_succ_cons, List.drop_zero]
     refine zL.normal ?_; have HB : b = false := by rw [← HE.out]; exact decide_eq_false (HN.out)
     go_upto_region 7 with fail
     refine wp_region_lit ?_; refine zy 1 ?_; refine wpList_nil ?_; go_wp2; go_ret; exact ⟨by (rw [HB]) <;> rfl, B⟩
   ·have q1 : decide ((k : Int) < (l.length : Int)) = false := decide_eq_false (by omega)
    have q2 : decide (k < l.length) = false := decide_eq_false hkl; have HN : l = m := zb9 hlen (fun i hi => HA.out i (by omega)); have HB : b = true := by rw [← HE.out]; exact decide_eq_true (HN)
    clear HN; go_upto_region 4 with fail
    refine wp_region_lit ?_; refine zy 2 ?_; refine zw (by first | rfl | simp [Region.wanted, yielded]) rfl Tryz.underlying35 rfl ?_; simp only [zo]; refine zy 1 ?_; refine wpList_nil ?_; go_upto_region 8 with fail
    refine wp_region_lit ?_; refine zy 1 ?_; refine wpList_nil ?_; go_wp2; go_ret; exact ⟨by (rw [HB]) <;> rfl, B⟩
 ·have q0 : ((l.length : Int) != (m.length : Int)) = true := by simp; omega
  have q0' : ((l.length : Int) == (m.length : Int)) = false := by simp; omega
  have HB : b = false := by rw [← HE.out]; exact decide_eq_false (fun k => hlen (by rw [k]))
  refine wp_region_lit ?_; refine zy 1 ?_; refine zw (by first | rfl | simp [Region.wanted, yielded]) rfl Tryz.underlying35 rfl ?_; simp only [zo]; refine zy 1 ?_; refine zw (by first | rfl | simp [Region.wanted, yielded]) rfl Tryz.underlying35 rfl ?_; simp only [zo]; refine zy 1 ?_; refine wpList_nil ?_; go_upto_region 2 with fail
  refine wp_region_lit ?_; refine zy 1 ?_; refine wpList_nil ?_; go_wp2; go_ret; exact ⟨by (rw [HB]) <;> rfl, B⟩
/-! ### Same -/
def EqS (s t : jd) : Prop := s.pts = t.pts ∧ s.rad = t.rad ∧ s.spa = t.spa ∧ s.col = t.col ∧ s.era = t.era ∧ s.pha = t.pha
instance (s t : jd) : Decidable (EqS s t) := by unfold EqS; infer_instance
theorem qh {o : Oper} {a : Act} {C : World → Prop} {K : Act → Prop} {p q : Operand} {t2 : TypeId} (h : o.op = .binOp .neq 28 p q t2) (x y : Px) (hx : a.eval p = .agg #[.int .u8 x.r, .int .u8 x.g, .int .u8 x.b, .int .u8 x.a]) (hy : a.eval q = .agg #[.int .u8 y.r, .int .u8 y.g, .int .u8 y.b, .int .u8 y.a]) (b : Bool) (hb : decide (x = y) = !b) (hk : K (a.put o.dst (.bool b))) : o.quiet Tryz.prog a C K :=
 ⟨_, fun w hw => by
  have hg : (eqGuard .neq 28 p q (.agg #[.int .u8 x.r, .int .u8 x.g, .int .u8 x.b, .int .u8 x.a]) (.agg #[.int .u8 y.r, .int .u8 y.g, .int .u8 y.b, .int .u8 y.a])).run Tryz.prog w = .ok () w := run_eqGuard_agg w _ 28 p q _ _ (by kernel_rfl); have hn : (binOp .neq 28 (.agg #[.int .u8 x.r, .int .u8 x.g, .int .u8 x.b, .int .u8 x.a]) (.agg #[.int .u8 y.r, .int .u8 y.g, .int .u8 y.b, .int .u8 y.a])).run Tryz.prog w = .ok (.bool b) w := (XX x y w).trans (by rw [hb, Bool.not_not]); unfold Oper.quietAt execOp; simp only [h, hx, hy, hg, hn, Sem.run_bind, Sem.run_pure, Result.andThen_ok]; exact ⟨rfl, rfl⟩, hk⟩
set_option maxHeartbeats 4000000 in
theorem zb5 (v v' : Value) (s t : jd) (b : Bool) (w : World) (h : xp j3 v s.pts w) (h' : xp j3 v' t.pts w) (hn : s.pts.length ≤ 1000000) (hn' : t.pts.length ≤ 1000000) (e : decide (EqS s t) = b) : Calls Tryz.prog 28 #[.agg (jE v s), .agg (jE v' t)] w fun e w' => e = .returned (.bool b) ∧ Below w.heap.size w w' := by
 have B := Below.refl w.heap.size w
 obtain ⟨a1, c1, rfl, _⟩ := h.len
 obtain ⟨a2, c2, rfl, _⟩ := h'.len
 have H1 := Lib.hid h
 have H2 := Lib.hid h'
 have HE := Lib.hid e
 clear h h' e
 go_enter Tryz.func28, Tryz.ntmps28
 go_upto_region 0 with fail
 refine wp_region_lit ?_
 (refine zt (t := 30) rfl _ rfl _ rfl (zY B ?_); clear B; intro b_r2 wn zb zd r2 za zf zk B; simp only [zo])
 (refine zt (t := 30) rfl _ rfl _ rfl (zY B ?_); clear B; intro b_r3 wn zb zd r3 za zf zk B; (try have zh := r2.lt); (try replace r2 := r2.below (za.mono zb)); simp only [zo])
 refine zy 1 ?_
 refine wpList_nil ?_
 have hr23 : b_r2 < b_r3 := by have := r2.lt; omega
 go_upto_region 1 with fail
 by_cases h0 : ¬ s.pts.length = t.pts.length
 ·have q0 : ((s.pts.length : Int) != (t.pts.length : Int)) = true := by simp; first | exact h0 | omega
  have q0' : ((s.pts.length : Int) == (t.pts.length : Int)) = false := by simp; first | exact h0 | omega
  have HB : b = false := by rw [← HE.out]; exact decide_eq_false (fun k => h0 (congrArg List.length k.1))
  refine wp_region_lit ?_; refine j4 2 ?_
  repeat (first | go_big_quiet_skip | (go_big_quiet_want; first | ((first | refine qh rfl s.col t.col rfl rfl _ q13 ?_ | refine qB ?_ | refine qC ?_); simp only [zo]; go_big_quiet_on) | (go_big_quiet_op; go_big_quiet_on)))
  refine wpQuiet_nil ?_; refine zw (by first | rfl | simp [Region.wanted, yielded]) rfl Tryz.underlying26 rfl ?_; simp only [zo]; refine j4 2 ?_
  repeat (first | go_big_quiet_skip | (go_big_quiet_want; first | ((first | refine qh rfl s.col t.col rfl rfl _ q13 ?_ | refine qB ?_ | refine qC ?_); simp only [zo]; go_big_quiet_on) | (go_big_quiet_op; go_big_quiet_on)))
  refine wpQuiet_nil ?_; refine zw (by first | rfl | simp [Region.wanted, yielded]) rfl Tryz.underlying26 rfl ?_; simp only [zo]; refine j4 36 ?_
  repeat (first | go_big_quiet_skip | (go_big_quiet_want; first | ((first | refine zn (t := 28) rfl _ _ _ rfl (fun w hw => xi (zB r2 w hw)) (by rfl) ?_ | refine zn (t := 28) rfl _ _ _ rfl (fun w hw => xi (zB r3 w hw)) (by rfl) ?_ | refine qh rfl s.col t.col rfl rfl _ q13 ?_ | refine qB ?_ | refine qC ?_); simp only [zo]; go_big_quiet_on) | (go_big_quiet_op; go_big_quiet_on)))
  refine wpQuiet_nil ?_; refine wpList_nil ?_; go_upto_region 2 with fail
  refine wp_region_lit ?_; refine zy 1 ?_; refine wpList_nil ?_; go_wp2; go_ret; exact ⟨by (rw [HB]) <;> rfl, B⟩
 ·by_cases h1 : ¬ s.rad = t.rad
  ·have q0 : ((s.pts.length : Int) != (t.pts.length : Int)) = false := by simp; first | exact Decidable.not_not.1 h0 | omega
   have q0' : ((s.pts.length : Int) == (t.pts.length : Int)) = true := by simp; first | exact Decidable.not_not.1 h0 | omega
   have q1 : (s.rad != t.rad) = true := by simp; first | exact h1 | omega
   have q1' : (s.rad == t.rad) = false := by simp; first | exact h1 | omega
   have HB : b = false := by rw [← HE.out]; exact decide_eq_false (fun k => h1 k.2.1)
   refine wp_region_lit ?_; refine j4 2 ?_
   repeat (first | go_big_quiet_skip | (go_big_quiet_want; first | ((first | refine qh rfl s.col t.col rfl rfl _ q13 ?_ | refine qB ?_ | refine qC ?_); simp only [zo]; go_big_quiet_on) | (go_big_quiet_op; go_big_quiet_on)))
   refine wpQuiet_nil ?_; refine zw (by first | rfl | simp [Region.wanted, yielded]) rfl Tryz.underlying26 rfl ?_; simp only [zo]; refine j4 2 ?_
   repeat (first | go_big_quiet_skip | (go_big_quiet_want; first | ((first | refine qh rfl s.col t.col rfl rfl _ q13 ?_ | refine qB ?_ | refine qC ?_); simp only [zo]; go_big_quiet_on) | (go_big_quiet_op; go_big_quiet_on)))
   refine wpQuiet_nil ?_; refine zw (by first | rfl | simp [Region.wanted, yielded]) rfl Tryz.underlying26 rfl ?_; simp only [zo]; refine j4 36 ?_
   repeat (first | go_big_quiet_skip | (go_big_quiet_want; first | ((first | refine zn (t := 28) rfl _ _ _ rfl (fun w hw => xi (zB r2 w hw)) (by rfl) ?_ | refine zn (t := 28) rfl _ _ _ rfl (fun w hw => xi (zB r3 w hw)) (by rfl) ?_ | refine qh rfl s.col t.col rfl rfl _ q13 ?_ | refine qB ?_ | refine qC ?_); simp only [zo]; go_big_quiet_on) | (go_big_quiet_op; go_big_quiet_on)))
   refine wpQuiet_nil ?_; refine wpList_nil ?_; go_upto_region 2 with fail
   refine wp_region_lit ?_; refine zy 1 ?_; refine wpList_nil ?_; go_wp2; go_ret; exact ⟨by (rw [HB]) <;> rfl, B⟩
  ·by_cases h2 : ¬ s.spa = t.spa
   ·have q0 : ((s.pts.length : Int) != (t.pts.length : Int)) = false := by simp; first | exact Decidable.not_not.1 h0 | omega
    have q0' : ((s.pts.length : Int) == (t.pts.length : Int)) = true := by simp; first | exact Decidable.not_not.1 h0 | omega
    have q1 : (s.rad != t.rad) = false := by simp; first | exact Decidable.not_not.1 h1 | omega
    have q1' : (s.rad == t.rad) = true := by simp; first | exact Decidable.not_not.1 h1 | omega
    have q2 : (s.spa != t.spa) = true := by simp; first | exact h2 | omega
    have q2' : (s.spa == t.spa) = false := by simp; first | exact h2 | omega
    have HB : b = false := by rw [← HE.out]; exact decide_eq_false (fun k => h2 k.2.2.1)
    refine wp_region_lit ?_; refine j4 2 ?_
    repeat (first | go_big_quiet_skip | (go_big_quiet_want; first | ((first | refine qh rfl s.col t.col rfl rfl _ q13 ?_ | refine qB ?_ | refine qC ?_); simp only [zo]; go_big_quiet_on) | (go_big_quiet_op; go_big_quiet_on)))
    refine wpQuiet_nil ?_; refine zw (by first | rfl | simp [Region.wanted, yielded]) rfl Tryz.underlying26 rfl ?_; simp only [zo]; refine j4 2 ?_
    repeat (first | go_big_quiet_skip | (go_big_quiet_want; first | ((first | refine qh rfl s.col t.col rfl rfl _ q13 ?_ | refine qB ?_ | refine qC ?_); simp only [zo]; go_big_quiet_on) | (go_big_quiet_op; go_big_quiet_on)))
    refine wpQuiet_nil ?_; refine zw (by first | rfl | simp [Region.wanted, yielded]) rfl Tryz.underlying26 rfl ?_; simp only [zo]; refine j4 36 ?_
    repeat (first | go_big_quiet_skip | (go_big_quiet_want; first | ((first | refine zn (t := 28) rfl _ _ _ rfl (fun w hw => xi (zB r2 w hw)) (by rfl) ?_ | refine zn (t := 28) rfl _ _ _ rfl (fun w hw => xi (zB r3 w hw)) (by rfl) ?_ | refine qh rfl s.col t.col rfl rfl _ q13 ?_ | refine qB ?_ | refine qC ?_); simp only [zo]; go_big_quiet_on) | (go_big_quiet_op; go_big_quiet_on)))
    refine wpQuiet_nil ?_; refine wpList_nil ?_; go_upto_region 2 with fail
    refine wp_region_lit ?_; refine zy 1 ?_; refine wpList_nil ?_; go_wp2; go_ret; exact ⟨by (rw [HB]) <;> rfl, B⟩
   ·by_cases h3 : ¬ s.col = t.col
    ·have q0 : ((s.pts.length : Int) != (t.pts.length : Int)) = false := by simp; first | exact Decidable.not_not.1 h0 | omega
     have q0' : ((s.pts.length : Int) == (t.pts.length : Int)) = true := by simp; first | exact Decidable.not_not.1 h0 | omega
     have q1 : (s.rad != t.rad) = false := by simp; first | exact Decidable.not_not.1 h1 | omega
     have q1' : (s.rad == t.rad) = true := by simp; first | exact Decidable.not_not.1 h1 | omega
     have q2 : (s.spa != t.spa) = false := by simp; first | exact Decidable.not_not.1 h2 | omega
     have q2' : (s.spa == t.spa) = true := by simp; first | exact Decidable.not_not.1 h2 | omega
     have q13 : decide (s.col = t.col) = !true := decide_eq_false h3; have HB : b = false := by rw [← HE.out]; exact decide_eq_false (fun k => h3 k.2.2.2.1)
     refine wp_region_lit ?_; refine j4 2 ?_
     repeat (first | go_big_quiet_skip | (go_big_quiet_want; first | ((first | refine qh rfl s.col t.col rfl rfl _ q13 ?_ | refine qB ?_ | refine qC ?_); simp only [zo]; go_big_quiet_on) | (go_big_quiet_op; go_big_quiet_on)))
     refine wpQuiet_nil ?_; refine zw (by first | rfl | simp [Region.wanted, yielded]) rfl Tryz.underlying26 rfl ?_; simp only [zo]; refine j4 2 ?_
     repeat (first | go_big_quiet_skip | (go_big_quiet_want; first | ((first | refine qh rfl s.col t.col rfl rfl _ q13 ?_ | refine qB ?_ | refine qC ?_); simp only [zo]; go_big_quiet_on) | (go_big_quiet_op; go_big_quiet_on)))
     refine wpQuiet_nil ?_; refine zw (by first | rfl | simp [Region.wanted, yielded]) rfl Tryz.underlying26 rfl ?_; simp only [zo]; refine j4 36 ?_
     repeat (first | go_big_quiet_skip | (go_big_quiet_want; first | ((first | refine zn (t := 28) rfl _ _ _ rfl (fun w hw => xi (zB r2 w hw)) (by rfl) ?_ | refine zn (t := 28) rfl _ _ _ rfl (fun w hw => xi (zB r3 w hw)) (by rfl) ?_ | refine qh rfl s.col t.col rfl rfl _ q13 ?_ | refine qB ?_ | refine qC ?_); simp only [zo]; go_big_quiet_on) | (go_big_quiet_op; go_big_quiet_on)))
     refine wpQuiet_nil ?_; refine wpList_nil ?_; go_upto_region 2 with fail
     refine wp_region_lit ?_; refine zy 1 ?_; refine wpList_nil ?_; go_wp2; go_ret; exact ⟨by (rw [HB]) <;> rfl, B⟩
    ·by_cases h4 : ¬ s.era = t.era
     ·have q0 : ((s.pts.length : Int) != (t.pts.length : Int)) = false := by simp; first | exact Decidable.not_not.1 h0 | omega
      have q0' : ((s.pts.length : Int) == (t.pts.length : Int)) = true := by simp; first | exact Decidable.not_not.1 h0 | omega
      have q1 : (s.rad != t.rad) = false := by simp; first | exact Decidable.not_not.1 h1 | omega
      have q1' : (s.rad == t.rad) = true := by simp; first | exact Decidable.not_not.1 h1 | omega
      have q2 : (s.spa != t.spa) = false := by simp; first | exact Decidable.not_not.1 h2 | omega
      have q2' : (s.spa == t.spa) = true := by simp; first | exact Decidable.not_not.1 h2 | omega
      have q13 : decide (s.col = t.col) = !false := decide_eq_true (Decidable.not_not.1 h3); have q4 : (s.era != t.era) = true := by simp; first | exact h4 | omega
      have q4' : (s.era == t.era) = false := by simp; first | exact h4 | omega
      have HB : b = false := by rw [← HE.out]; exact decide_eq_false (fun k => h4 k.2.2.2.2.1)
      refine wp_region_lit ?_; refine j4 2 ?_
      repeat (first | go_big_quiet_skip | (go_big_quiet_want; first | ((first | refine qh rfl s.col t.col rfl rfl _ q13 ?_ | refine qB ?_ | refine qC ?_); simp only [zo]; go_big_quiet_on) | (go_big_quiet_op; go_big_quiet_on)))
      refine wpQuiet_nil ?_; refine zw (by first | rfl | simp [Region.wanted, yielded]) rfl Tryz.underlying26 rfl ?_; simp only [zo]; refine j4 2 ?_
      repeat (first | go_big_quiet_skip | (go_big_quiet_want; first | ((first | refine qh rfl s.col t.col rfl rfl _ q13 ?_ | refine qB ?_ | refine qC ?_); simp only [zo]; go_big_quiet_on) | (go_big_quiet_op; go_big_quiet_on)))
      refine wpQuiet_nil ?_; refine zw (by first | rfl | simp [Region.wanted, yielded]) rfl Tryz.underlying26 rfl ?_; simp only [zo]; refine j4 36 ?_
      repeat (first | go_big_quiet_skip | (go_big_quiet_want; first | ((first | refine zn (t := 28) rfl _ _ _ rfl (fun w hw => xi (zB r2 w hw)) (by rfl) ?_ | refine zn (t := 28) rfl _ _ _ rfl (fun w hw => xi (zB r3 w hw)) (by rfl) ?_ | refine qh rfl s.col t.col rfl rfl _ q13 ?_ | refine qB ?_ | refine qC ?_); simp only [zo]; go_big_quiet_on) | (go_big_quiet_op; go_big_quiet_on)))
      refine wpQuiet_nil ?_; refine wpList_nil ?_; go_upto_region 2 with fail
      refine wp_region_lit ?_; refine zy 1 ?_; refine wpList_nil ?_; go_wp2; go_ret; exact ⟨by (rw [HB]) <;> rfl, B⟩
     ·by_cases h5 : ¬ s.pha = t.pha
      ·have q0 : ((s.pts.length : Int) != (t.pts.length : Int)) = false := by simp; first | exact Decidable.not_not.1 h0 | omega
       have q0' : ((s.pts.length : Int) == (t.pts.length : Int)) = true := by simp; first | exact Decidable.not_not.1 h0 | omega
       have q1 : (s.rad != t.rad) = false := by simp; first | exact Decidable.not_not.1 h1 | omega
       have q1' : (s.rad == t.rad) = true := by simp; first | exact Decidable.not_not.1 h1 | omega
       have q2 : (s.spa != t.spa) = false := by simp; first | exact Decidable.not_not.1 h2 | omega
       have q2' : (s.spa == t.spa) = true := by simp; first | exact Decidable.not_not.1 h2 | omega
       have q13 : decide (s.col = t.col) = !false := decide_eq_true (Decidable.not_not.1 h3); have q4 : (s.era != t.era) = false := by simp; first | exact Decidable.not_not.1 h4 | omega
       have q4' : (s.era == t.era) = true := by simp; first | exact Decidable.not_not.1 h4 | omega
       have q5 : (s.pha != t.pha) = true := by simp; first | exact h5 | omega
       have q5' : (s.pha == t.pha) = false := by simp; first | exact h5 | omega
       have HB : b = false := by rw [← HE.out]; exact decide_eq_false (fun k => h5 k.2.2.2.2.2)
       refine wp_region_lit ?_; refine j4 2 ?_
       repeat (first | go_big_quiet_skip | (go_big_quiet_want; first | ((first | refine qh rfl s.col t.col rfl rfl _ q13 ?_ | refine qB ?_ | refine qC ?_); simp only [zo]; go_big_quiet_on) | (go_big_quiet_op; go_big_quiet_on)))
       refine wpQuiet_nil ?_; refine zw (by first | rfl | simp [Region.wanted, yielded]) rfl Tryz.underlying26 rfl ?_; simp only [zo]; refine j4 2 ?_
       repeat (first | go_big_quiet_skip | (go_big_quiet_want; first | ((first | refine qh rfl s.col t.col rfl rfl _ q13 ?_ | refine qB ?_ | refine qC ?_); simp only [zo]; go_big_quiet_on) | (go_big_quiet_op; go_big_quiet_on)))
       refine wpQuiet_nil ?_; refine zw (by first | rfl | simp [Region.wanted, yielded]) rfl Tryz.underlying26 rfl ?_; simp only [zo]; refine j4 36 ?_
       repeat (first | go_big_quiet_skip | (go_big_quiet_want; first | ((first | refine zn (t := 28) rfl _ _ _ rfl (fun w hw => xi (zB r2 w hw)) (by rfl) ?_ | refine zn (t := 28) rfl _ _ _ rfl (fun w hw => xi (zB r3 w hw)) (by rfl) ?_ | refine qh rfl s.col t.col rfl rfl _ q13 ?_ | refine qB ?_ | refine qC ?_); simp only [zo]; go_big_quiet_on) | (go_big_quiet_op; go_big_quiet_on)))
       refine wpQuiet_nil ?_; refine wpList_nil ?_; go_upto_region 2 with fail
       refine wp_region_lit ?_; refine zy 1 ?_; refine wpList_nil ?_; go_wp2; go_ret; exact ⟨by (rw [HB]) <;> rfl, B⟩
      ·have q0 : ((s.pts.length : Int) != (t.pts.length : Int)) = false := by simp; first | exact Decidable.not_not.1 h0 | omega
       have q0' : ((s.pts.length : Int) == (t.pts.length : Int)) = true := by simp; first | exact Decidable.not_not.1 h0 | omega
       have q1 : (s.rad != t.rad) = false := by simp; first | exact Decidable.not_not.1 h1 | omega
       have q1' : (s.rad == t.rad) = true := by simp; first | exact Decidable.not_not.1 h1 | omega
       have q2 : (s.spa != t.spa) = false := by simp; first | exact Decidable.not_not.1 h2 | omega
       have q2' : (s.spa == t.spa) = true := by simp; first | exact Decidable.not_not.1 h2 | omega
       have q13 : decide (s.col = t.col) = !false := decide_eq_true (Decidable.not_not.1 h3); have q4 : (s.era != t.era) = false := by simp; first | exact Decidable.not_not.1 h4 | omega
       have q4' : (s.era == t.era) = true := by simp; first | exact Decidable.not_not.1 h4 | omega
       have q5 : (s.pha != t.pha) = false := by simp; first | exact Decidable.not_not.1 h5 | omega
       have q5' : (s.pha == t.pha) = true := by simp; first | exact Decidable.not_not.1 h5 | omega
       have hlen := Decidable.not_not.1 h0; have HX := Lib.hid (fun k => (show EqS s t from ⟨k, Decidable.not_not.1 h1, Decidable.not_not.1 h2, Decidable.not_not.1 h3, Decidable.not_not.1 h4, Decidable.not_not.1 h5⟩)); refine wp_region_lit ?_; refine j4 2 ?_
       repeat (first | go_big_quiet_skip | (go_big_quiet_want; first | ((first | refine qh rfl s.col t.col rfl rfl _ q13 ?_ | refine qB ?_ | refine qC ?_); simp only [zo]; go_big_quiet_on) | (go_big_quiet_op; go_big_quiet_on)))
       refine wpQuiet_nil ?_; refine zw (by first | rfl | simp [Region.wanted, yielded]) rfl Tryz.underlying26 rfl ?_; simp only [zo]; refine j4 2 ?_
       repeat (first | go_big_quiet_skip | (go_big_quiet_want; first | ((first | refine qh rfl s.col t.col rfl rfl _ q13 ?_ | refine qB ?_ | refine qC ?_); simp only [zo]; go_big_quiet_on) | (go_big_quiet_op; go_big_quiet_on)))
       refine wpQuiet_nil ?_; refine zw (by first | rfl | simp [Region.wanted, yielded]) rfl Tryz.underlying26 rfl ?_; simp only [zo]; refine j4 36 ?_
       repeat (first | go_big_quiet_skip | (go_big_quiet_want; first | ((first | refine zn (t := 28) rfl _ _ _ rfl (fun w hw => xi (zB r2 w hw)) (by rfl) ?_ | refine zn (t := 28) rfl _ _ _ rfl (fun w hw => xi (zB r3 w hw)) (by rfl) ?_ | refine qh rfl s.col t.col rfl rfl _ q13 ?_ | refine qB ?_ | refine qC ?_); simp only [zo]; go_big_quiet_on) | (go_big_quiet_op; go_big_quiet_on)))
       refine wpQuiet_nil ?_; refine wpList_nil ?_; clear h0 h1 h2 h3 h4 h5 q13 q4 q4'; go_upto_region 3 with fail
       refine wp_region_lit ?_; refine zy 1 ?_; refine wpList_nil ?_; go_wp2; go_loopw [5] (fun iv wr => ∃ k : Nat, k ≤ s.pts.length ∧ iv = .int .i64 (k : Int) ∧ Hid (∀ i, i < k → s.pts[i]? = t.pts[i]?) ∧ Below w.heap.size w wr ∧ zK 30 wr b_r2 (jE (.slice a1 s.pts.length c1) s) ∧ zK 30 wr b_r3 (jE (.slice a2 t.pts.length c2) t)) (fun iv _ => (s.pts.length - intOf iv).toNat)
       case atStart => exact ⟨0, by omega, rfl, Lib.hid fun i hi => absurd hi (by omega), B, r2, r3⟩
       case round =>
        clear B r2 r3; obtain ⟨k, hk, rfl, HA, B, r2, r3⟩ := hrel; by_cases hkl : k < s.pts.length
        ·have q1 : decide ((k : Int) < (s.pts.length : Int)) = true := decide_eq_true (by omega)
         have q2 : decide (k < s.pts.length) = true := decide_eq_true hkl; have hkm : k < t.pts.length := by omega
         have q3 : decide ((k : Int) < (t.pts.length : Int)) = true := decide_eq_true (by omega); have q4 : decide (k < t.pts.length) = true := decide_eq_true hkm; obtain ⟨g1, o1, rfl, ca0⟩ := H1.out.at (by omega); obtain ⟨g2, o2, rfl, cb0⟩ := H2.out.at (by omega); have ca := ca0.of_eq (B.block _ ca0.lt); have cb := cb0.of_eq (B.block _ cb0.lt); clear ca0 cb0; have hp := ju (l := s.pts) hkl; have hp2 := ju (l := t.pts) hkm
         generalize hx1 : jJ s.pts k = x1 at *
         generalize hx2 : jJ t.pts k = x2 at *
         clear hx1 hx2; by_cases hxx : x1 = x2
         ·have q9 : decide (x1 = x2) = !false := decide_eq_true hxx
          have HN := Lib.hid (show ∀ i, i < k + 1 → s.pts[i]? = t.pts[i]? from fun i hi => by
           by_cases hik : i = k
           ·rw [hik, hp, hp2, hxx]
           ·exact HA.out i (by omega))
          clear hxx; go_upto_region 4 with fail
          refine wp_region_lit ?_; refine zy 3 ?_
          refine zw (by first | rfl | simp [Region.wanted, yielded]) rfl Tryz.underlying26 rfl ?_; simp only [zo]; refine zy 1 ?_; refine wpList_nil ?_; go_upto_region 6 with fail
          try have lx_r2 := r2.lt
          try have lx_r3 := r3.lt
          try have lx_ca := ca.lt
          try have lx_cb := cb.lt
          refine zJ 11 [] (by kernel_rfl) (by kernel_rfl) (by kernel_rfl) ?_
          rotate_left 0
          simp only [jZ, Nat.reduceAdd]; refine ub 11 ?_
          repeat (first | go_big_quiet_skip | (go_big_quiet_want; first | ((first | refine zn (t := 43) rfl _ _ _ rfl (fun w hw => (jX ca w hw).load Tryz.isAgg43 hp) (by first | rfl | omega) ?_ | refine zn (t := 43) rfl _ _ _ rfl (fun w hw => (jX cb w hw).load Tryz.isAgg43 hp2) (by first | rfl | omega) ?_ | refine ui rfl x1 x2 rfl rfl _ q9 ?_ | refine qB ?_ | refine qC ?_); simp only [zo]; go_big_quiet_on) | (go_big_quiet_op; go_big_quiet_on)))
          refine wpQuiet_nil ?_; refine qi ?_; intro wn za hE; have zf := B.size; have zg := za.size; replace B := B.trans (za.mono B.size)
          (try replace r2 := r2.below za)
          (try replace r3 := r3.below za)
          (try replace ca := ca.below za)
          (try replace cb := cb.below za)
          clear hE; try simp only [List.drop_succ_cons, List.drop_zero]
          refine zL.normal ?_; go_upto_region 5 with fail
          refine wp_region_lit ?_; refine zy 3 ?_; refine wpList_nil ?_; go_wp2; go_roundw
          case rel => exact ⟨k + 1, by omega, by go_num, HN, B, r2, r3⟩
          case measure => simp [intOf]; omega
         ·have q9 : decide (x1 = x2) = !true := decide_eq_false hxx
          have HN := Lib.hid (show ¬ s.pts = t.pts from WB (i := k) (by rw [hp, hp2]; intro h; injection h with h; exact hxx h))
          clear hxx; go_upto_region 4 with fail
          refine wp_region_lit ?_; refine zy 3 ?_
          refine zw (by first | rfl | simp [Region.wanted, yielded]) rfl Tryz.underlying26 rfl ?_; simp only [zo]; refine zy 1 ?_; refine wpList_nil ?_; go_upto_region 6 with fail
          try have lx_r2 := r2.lt
          try have lx_r3 := r3.lt
          try have lx_ca := ca.lt
          try have lx_cb := cb.lt
          refine zJ 11 [] (by kernel_rfl) (by kernel_rfl) (by kernel_rfl) ?_
          rotate_left 0
          simp only [jZ, Nat.reduceAdd]; refine ub 11 ?_
          repeat (first | go_big_quiet_skip | (go_big_quiet_want; first | ((first | refine zn (t := 43) rfl _ _ _ rfl (fun w hw => (jX ca w hw).load Tryz.isAgg43 hp) (by first | rfl | omega) ?_ | refine zn (t := 43) rfl _ _ _ rfl (fun w hw => (jX cb w hw).load Tryz.isAgg43 hp2) (by first | rfl | omega) ?_ | refine ui rfl x1 x2 rfl rfl _ q9 ?_ | refine qB ?_ | refine qC ?_); simp only [zo]; go_big_quiet_on) | (go_big_quiet_op; go_big_quiet_on)))
          refine wpQuiet_nil ?_; refine qi ?_; intro wn za hE; have zf := B.size; have zg := za.size; replace B := B.trans (za.mono B.size)
          (try replace r2 := r2.below za)
          (try replace r3 := r3.below za)
          clear hE; try simp only [List.drop_succ_cons, List.drop_zero]
          refine zL.normal ?_; have HB : b = false := by rw [← HE.out]; exact decide_eq_false (fun k => HN.out k.1)
          go_upto_region 7 with fail
          refine wp_region_lit ?_; refine zy 1 ?_; refine wpList_nil ?_; go_wp2; go_ret; exact ⟨by (rw [HB]) <;> rfl, B⟩
        ·have q1 : decide ((k : Int) < (s.pts.length : Int)) = false := decide_eq_false (by omega)
         have q2 : decide (k < s.pts.length) = false := decide_eq_false hkl; have HN : s.pts = t.pts := zb9 hlen (fun i hi => HA.out i (by omega)); have HB : b = true := by rw [← HE.out]; exact decide_eq_true (HX.out HN)
         clear HN; go_upto_region 4 with fail
         refine wp_region_lit ?_; refine zy 3 ?_
         refine zw (by first | rfl | simp [Region.wanted, yielded]) rfl Tryz.underlying26 rfl ?_; simp only [zo]; refine zy 1 ?_; refine wpList_nil ?_; go_upto_region 8 with fail
         refine wp_region_lit ?_; refine zy 1 ?_; refine wpList_nil ?_; go_wp2; go_ret; exact ⟨by (rw [HB]) <;> rfl, B⟩
/- Contracts of the reference's pick, Made. -/
theorem jS (L : List Int) (i : Nat) {m : Int} (hm : 0 < m) : 0 ≤ qX L i m ∧ qX L i m < m := by
 unfold qX
 split
 ·exact ⟨Int.emod_nonneg _ (by omega), Int.emod_lt_of_pos _ hm⟩
 ·omega
set_option maxHeartbeats 1000000 in
theorem yo (v : Value) (L : List Int) (i : Nat) (j m q : Int) (w : World) (h : xp inE v L w) (hn : L.length ≤ 17592186044416) (hj : j = i) (hm : 0 < m) (hm2 : m ≤ 1000000) (e : qX L i m = q) : Calls Tryz.prog 49 #[v, .int .i64 j, .int .i64 m] w fun e w' => e = .returned (.int .i64 q) ∧ Below w.heap.size w w' := by
 subst hj
 obtain ⟨a, c, rfl, hc⟩ := h.len
 have E := Lib.hid e
 by_cases hi : i < L.length
 ·have e1 : qX L i m = ZA L i % 1048576 % m := by unfold qX; rw [if_pos hi]
  rw [e1] at E; obtain ⟨g, o, rfl, rc⟩ := h.at (by omega); have hix := hi; have b1 := vM (ZA L i); have d1 : decide ((i : Int) < (L.length : Int)) = true := decide_eq_true (by omega); have e0 : m ≠ 0 := by omega
  have e00 : (m == 0) = false := by simp; omega
  have hnn : 0 ≤ ZA L i % 1048576 := by omega
  have t1 : Int.tmod (ZA L i % 1048576) m = ZA L i % 1048576 % m := Int.tmod_eq_emod_of_nonneg hnn; clear e e1; go_enter Tryz.func49, Tryz.ntmps49
  go_wp2_with (first | (refine zp (t := 3) rfl _ rfl _ _ _ rfl (zu (X4 rc (getD_some hix))) (by first | with_reducible rfl | omega) ?_; simp only [zo]) | fail)
  go_ret; exact ⟨by (rw [← E.out]) <;> rfl, by go_grown⟩
 ·have e1 : qX L i m = 0 := by unfold qX; rw [if_neg hi]
  have d1 : decide ((i : Int) < (L.length : Int)) = false := decide_eq_false (by omega); rw [e1] at E; clear e e1; go_enter Tryz.func49, Tryz.ntmps49
  go_wp2; go_ret; exact ⟨by (rw [← E.out]) <;> rfl, by go_grown⟩
def madeN (L : List Int) : Nat := (1 + qX L 5 6).toNat
def uD (L : List Int) (i : Nat) : Sp := ⟨qX L (6 + 3 * i) 400 - 100, qX L (7 + 3 * i) 400 - 100, 255 - qX L (8 + 3 * i) 256⟩
def kP (L : List Int) (k : Nat) : List Sp := (List.range k).map (uD L)
def qo (L : List Int) : jd := ⟨kP L (madeN L), 1 + qX L 0 64, 8 + qX L 1 120, kc (qX L 4 1000000), decide (qX L 3 4 = 1), qX L 2 100⟩
theorem Ki (L : List Int) : 1 ≤ madeN L ∧ madeN L ≤ 6 := by
 have := jS L 5 (m := 6) (by omega)
 unfold madeN
 omega
theorem ZS (L : List Int) (k : Nat) : (kP L k).length = k := by unfold kP; rw [List.length_map, List.length_range]
theorem XU (L : List Int) (k : Nat) : kP L (k + 1) = kP L k ++ [uD L k] := by
 unfold kP
 rw [List.range_succ, List.map_append]
 rfl
/-- A slice stored into a cell of a block. -/
theorem kT {t : TypeId} {ops : Array Oper} {rest : List Oper} {o : Oper} {a : Act} {w : World} {Q : Exit → Act → World → Prop} (hg : o.guard = none) (x y : Operand) (ho : o.op = .store 26 x y) (b i : Nat) (hx : a.eval x = .pointer (some ⟨b, i, none⟩)) (ad : Option Addr) (n cp : Nat) (hy : a.eval y = .slice ad n cp) {cs : Array Value} (ht : zK t w b cs) {c : Value} (hc : cs[i]? = some c)
  (h : ∀ w', zK t w' b (cs.setIfInBounds i (.slice ad n cp)) → qV b w w' → w'.heap.size = w.heap.size → wpList Tryz.prog ops Q rest (a.put o.dst undef) w') : wpList Tryz.prog ops Q (o :: rest) a w := by
 have c0 := ht.cell i hc
 have f0 := ht.frozen i
 refine qk hg x y ho (w.setCell ⟨b, i, none⟩ (.slice ad n cp)) ?_ (h _ ?_ ((qV.refl b w).setCell _) (by simp only [World.size_setCell]))
 ·rw [hx, hy]
  simp [go_sem, c0, f0]
 ·exact heap_setCell_same w b i cs _ _ ht
def bsG (n : Nat) (t : TypeId) (cs : Array Value) : jQ := ⟨Nat, ⟨0⟩, fun b => .slice (some ⟨b, 0, none⟩) 1 1, fun b w => n ≤ b ∧ zK t w b cs, fun _ _ _ hb h => ⟨h.1, h.2.of_eq (hb.block _ h.2.lt)⟩⟩
set_option maxHeartbeats 4000000 in
theorem zaq (v : Value) (L : List Int) (w : World) (ls : xp inE v L w) (hn : L.length ≤ 17592186044416) : Calls Tryz.prog 15 #[v] w fun e w' => ∃ a cp, e = .returned (.agg (jE (.slice a (qo L).pts.length cp) (qo L))) ∧ jb j3 w.heap.size (.slice a (qo L).pts.length cp) (qo L).pts w' ∧ Below w.heap.size w w' := by
 have B := Below.refl w.heap.size w
 have HL := Lib.hid ls
 obtain ⟨a, c, rfl, hc⟩ := ls.len
 have k0 := jS L 0 (m := 64) (by omega)
 obtain ⟨p0, h0⟩ : ∃ p, qX L 0 64 = p := ⟨_, rfl⟩
 rw [h0] at k0
 have Hp0 := Lib.hid h0
 have k1 := jS L 1 (m := 120) (by omega)
 obtain ⟨p1, h1⟩ : ∃ p, qX L 1 120 = p := ⟨_, rfl⟩
 rw [h1] at k1
 have Hp1 := Lib.hid h1
 have k2 := jS L 2 (m := 100) (by omega)
 obtain ⟨p2, h2⟩ : ∃ p, qX L 2 100 = p := ⟨_, rfl⟩
 rw [h2] at k2
 have Hp2 := Lib.hid h2
 have k3 := jS L 3 (m := 4) (by omega)
 obtain ⟨p3, h3⟩ : ∃ p, qX L 3 4 = p := ⟨_, rfl⟩
 rw [h3] at k3
 have Hp3 := Lib.hid h3
 have k4 := jS L 4 (m := 1000000) (by omega)
 obtain ⟨p4, h4⟩ : ∃ p, qX L 4 1000000 = p := ⟨_, rfl⟩
 rw [h4] at k4
 have Hp4 := Lib.hid h4
 have k5 := jS L 5 (m := 6) (by omega)
 obtain ⟨p5, h5⟩ : ∃ p, qX L 5 6 = p := ⟨_, rfl⟩
 rw [h5] at k5
 have Hp5 := Lib.hid h5
 obtain ⟨e3, he3⟩ : ∃ e, decide (p3 = 1) = e := ⟨_, rfl⟩
 have he3' : (p3 == 1) = e3 := by rw [← he3]; rfl
 have HM := Lib.hid (show jE (.slice none 0 0) ⟨[], 1 + p0, 8 + p1, kc p4, e3, p2⟩ = jE (.slice none 0 0) (qo L) from by unfold qo jE; simp only; rw [h0, h1, h2, h3, h4, he3])
 have HNN := Lib.hid (show (madeN L : Int) = 1 + p5 from by unfold madeN; rw [h5]; omega)
 obtain ⟨nn, hnn⟩ : ∃ n, madeN L = n := ⟨_, rfl⟩
 have HNV := Lib.hid hnn
 rw [hnn] at HNN
 have hn6 : nn ≤ 6 := by have := HNN.out; omega
 clear h0 h1 h2 h3 h4 h5 hnn
 go_enter Tryz.func15, Tryz.ntmps15
 go_upto_region 0 with fail
 refine wp_region_lit ?_
 (refine zr (t := 30) rfl _ (qD _ _ rfl) (zY B ?_); clear B; intro b_r2 wn zb zd r2 za zf zk B; (try have zh := ls.lt); (try replace ls := ls.below (za.mono zb)); simp only [zo])
 refine wpList_nil ?_
 go_upto_region 1 with fail
 refine wp_region_lit ?_
 refine zy 1 ?_
 refine je (enters_of Tryz.func49 (by kernel_rfl) rfl) (c := yo _ L 0 0 64 p0 _ ls hn (rfl) (by omega) (by omega) Hp0.out) (h := ?_)
 rintro e wn ⟨rfl, za⟩
 have zf := B.size
 have zg := za.size
 replace B := B.trans (za.mono B.size)
 (try replace r2 := r2.below za)
 (try replace ls := ls.below za)
 refine ⟨_, rfl, ?_⟩
 simp only [zo]
 refine zy 2 ?_
 refine je (enters_of Tryz.func49 (by kernel_rfl) rfl) (c := yo _ L 1 1 120 p1 _ ls hn (rfl) (by omega) (by omega) Hp1.out) (h := ?_)
 rintro e wn ⟨rfl, za⟩
 have zf := B.size
 have zg := za.size
 replace B := B.trans (za.mono B.size)
 (try replace r2 := r2.below za)
 (try replace ls := ls.below za)
 refine ⟨_, rfl, ?_⟩
 simp only [zo]
 refine zy 2 ?_
 refine je (enters_of Tryz.func49 (by kernel_rfl) rfl) (c := yo _ L 2 2 100 p2 _ ls hn (rfl) (by omega) (by omega) Hp2.out) (h := ?_)
 rintro e wn ⟨rfl, za⟩
 have zf := B.size
 have zg := za.size
 replace B := B.trans (za.mono B.size)
 (try replace r2 := r2.below za)
 (try replace ls := ls.below za)
 refine ⟨_, rfl, ?_⟩
 simp only [zo]
 refine zy 1 ?_
 refine je (enters_of Tryz.func49 (by kernel_rfl) rfl) (c := yo _ L 3 3 4 p3 _ ls hn (rfl) (by omega) (by omega) Hp3.out) (h := ?_)
 rintro e wn ⟨rfl, za⟩
 have zf := B.size
 have zg := za.size
 replace B := B.trans (za.mono B.size)
 (try replace r2 := r2.below za)
 (try replace ls := ls.below za)
 refine ⟨_, rfl, ?_⟩
 simp only [zo]
 refine zy 2 ?_
 refine je (enters_of Tryz.func49 (by kernel_rfl) rfl) (c := yo _ L 4 4 1000000 p4 _ ls hn (rfl) (by omega) (by omega) Hp4.out) (h := ?_)
 rintro e wn ⟨rfl, za⟩
 have zf := B.size
 have zg := za.size
 replace B := B.trans (za.mono B.size)
 (try replace r2 := r2.below za)
 (try replace ls := ls.below za)
 refine ⟨_, rfl, ?_⟩
 simp only [zo]
 refine je (enters_of Tryz.func50 (by kernel_rfl) rfl) (c := Wm p4 _) (h := ?_)
 rintro e wn ⟨rfl, za⟩
 have zf := B.size
 have zg := za.size
 replace B := B.trans (za.mono B.size)
 (try replace r2 := r2.below za)
 (try replace ls := ls.below za)
 refine ⟨_, rfl, ?_⟩
 simp only [zo]
 (refine qv rfl (.agg (jE (.slice none 0 0) ⟨[], 1 + p0, 8 + p1, kc p4, e3, p2⟩)) (by kernel_rfl) ?_; simp only [zo])
 (refine zr (t := 30) rfl _ (qD _ _ rfl) (zY B ?_); clear B; intro b_r3 wn zb zd r3 za zf zk B; (try have zh := r2.lt); (try replace r2 := r2.below (za.mono zb)); (try have zh := ls.lt); (try replace ls := ls.below (za.mono zb)); simp only [zo])
 (refine zq (t := 30) rfl _ _ rfl _ rfl _ rfl r3 (by kernel_rfl) rfl (by simp [jE, Value.oneCell']) (qG B (by omega) ?_); clear r3 B; intro wn r3 ze zf zg B; (try replace r2 := r2.of_eq (ze.block _ r2.lt (by omega))); (try replace ls := ls.of_eq (ze.block _ ls.lt (by omega))); simp only [zo])
 refine wpList_nil ?_
 rw [HM.out] at r3
 replace ls := HL.out.below B
 go_upto_region 2 with fail
 refine wp_region_lit ?_
 refine zy 1 ?_
 refine je (enters_of Tryz.func49 (by kernel_rfl) rfl) (c := yo _ L 5 5 6 p5 _ ls hn (rfl) (by omega) (by omega) Hp5.out) (h := ?_)
 rintro e wn ⟨rfl, za⟩
 have zf := B.size
 have zg := za.size
 replace B := B.trans (za.mono B.size)
 (try replace r2 := r2.below za)
 (try replace r3 := r3.below za)
 (try replace ls := ls.below za)
 refine ⟨_, rfl, ?_⟩
 simp only [zo]
 refine zy 2 ?_
 refine wpList_nil ?_
 have k6 : w.heap.size ≤ b_r2 := by omega
 have k7 : b_r2 < b_r3 := by have := r2.lt; omega
 have k8 := r3.lt
 obtain ⟨b0, hb0⟩ : ∃ n, n = wn.heap.size := ⟨_, rfl⟩
 have k9 : b_r3 < b0 := by omega
 have k10 : b0 ≤ wn.heap.size := by omega
 have od : jb j3 b0 (.slice none 0 0) [] wn := jb.nil b0 wn
 clear hb0 k8
 rw [← HNN.out]
 clear ls
 go_wp2
 go_loopw [5] (fun iv wr => ∃ (k cp : Nat) (ad : Option Addr) (P : List Sp), k ≤ nn ∧ iv = .int .i64 (k : Int) ∧ Hid (kP L k = P) ∧ Below w.heap.size w wr ∧ b0 ≤ wr.heap.size ∧ zK 30 wr b_r2 #[.slice none 0 0, .int .i64 0, .int .i64 0, .int .u8 0, .int .u8 0, .int .u8 0, .int .u8 0, .bool false, .int .i64 0] ∧ zK 30 wr b_r3 (jE (.slice ad P.length cp) (qo L)) ∧ jb j3 b0 (.slice ad P.length cp) P wr) (fun iv _ => (nn - intOf iv).toNat)
 case atStart => exact ⟨0, 0, none, [], by omega, rfl, Lib.hid rfl, B, k10, r2, r3, od⟩
 case round =>
  clear B r2 r3 od k10; obtain ⟨k, cp, ad, P, hk, rfl, HP, B, k10, r2, r3, od⟩ := hrel; have ls := HL.out.below B; by_cases hkn : k < nn
  ·have q1 : decide ((k : Int) < (nn : Int)) = true := decide_eq_true (by omega)
   have q2 : decide (k < nn) = true := decide_eq_true hkn; have j6 := jS L (6 + 3 * k) (m := 400) (by omega); obtain ⟨x6, g6⟩ : ∃ p, qX L (6 + 3 * k) 400 = p := ⟨_, rfl⟩; rw [g6] at j6; have Hx6 := Lib.hid g6; have j7 := jS L (7 + 3 * k) (m := 400) (by omega); obtain ⟨x7, g7⟩ : ∃ p, qX L (7 + 3 * k) 400 = p := ⟨_, rfl⟩; rw [g7] at j7; have Hx7 := Lib.hid g7; have j8 := jS L (8 + 3 * k) (m := 256) (by omega); obtain ⟨x8, g8⟩ : ∃ p, qX L (8 + 3 * k) 256 = p := ⟨_, rfl⟩; rw [g8] at j8; have Hx8 := Lib.hid g8; have HN := Lib.hid (show kP L (k + 1) = P ++ [⟨x6 - 100, x7 - 100, 255 - x8⟩] from by rw [XU, HP.out]; unfold uD; rw [g6, g7, g8])
   have hPl : P.length ≤ 6 := by rw [← HP.out, ZS]; omega
   clear g6 g7 g8; go_upto_region 4 with fail
   refine wp_region_lit ?_; refine zy 3 ?_; refine wpList_nil ?_; go_upto_region 6 with fail
   try have lx_r2 := r2.lt
   try have lx_r3 := r3.lt
   try have lx_ls := ls.lt
   try have lx_od := od.lt
   refine zJ 22 [(6, zN ?v1_6), (12, zN ?v1_12), (18, zN ?v1_18), (21, bsG (wr.heap.size) 43 (j3.enc ⟨x6 - 100, x7 - 100, 255 - x8⟩))] (by kernel_rfl) (by kernel_rfl) (by kernel_rfl) ?_
   rotate_left 3
   simp only [jZ, Nat.reduceAdd]; refine kX 6 ?_
   refine zD (by rfl) (by first | rfl | simp [Region.wanted, yielded]) ?_ ?_
   ·intro wn za hE Kx hKx
    have zf := B.size; have zg := za.size; replace B := B.trans (za.mono B.size)
    (try replace r2 := r2.below za)
    (try replace r3 := r3.below za)
    (try replace ls := ls.below za)
    (try replace od := od.below za)
    refine zP rfl (enters_of Tryz.func49 (by kernel_rfl) rfl) (by simp only [Act.eval, qI]; rfl) ?_
    refine (yo _ L (6 + 3 * k) _ 400 x6 wn ls hn (by omega) (by omega) (by omega) Hx6.out).mono ?_; rintro e wm ⟨rfl, zl⟩; refine ⟨_, rfl, ?_⟩; have hz := hKx () wm trivial zl
    dsimp only [zN] at hz
    exact hz
   rintro ⟨⟩
   dsimp only [zN]
   simp only [zo]; refine kX 5 ?_; refine zD (by rfl) (by first | rfl | simp [Region.wanted, yielded]) ?_ ?_
   ·intro wn za hE Kx hKx
    have zf := B.size; have zg := za.size; replace B := B.trans (za.mono B.size)
    (try replace r2 := r2.below za)
    (try replace r3 := r3.below za)
    (try replace ls := ls.below za)
    (try replace od := od.below za)
    refine zP rfl (enters_of Tryz.func49 (by kernel_rfl) rfl) (by simp only [Act.eval, qI]; rfl) ?_
    refine (yo _ L (7 + 3 * k) _ 400 x7 wn ls hn (by omega) (by omega) (by omega) Hx7.out).mono ?_; rintro e wm ⟨rfl, zl⟩; refine ⟨_, rfl, ?_⟩; have hz := hKx () wm trivial zl
    dsimp only [zN] at hz
    exact hz
   rintro ⟨⟩
   dsimp only [zN]
   simp only [zo]; refine kX 5 ?_; refine zD (by rfl) (by first | rfl | simp [Region.wanted, yielded]) ?_ ?_
   ·intro wn za hE Kx hKx
    have zf := B.size; have zg := za.size; replace B := B.trans (za.mono B.size)
    (try replace r2 := r2.below za)
    (try replace r3 := r3.below za)
    (try replace ls := ls.below za)
    (try replace od := od.below za)
    refine zP rfl (enters_of Tryz.func49 (by kernel_rfl) rfl) (by simp only [Act.eval, qI]; rfl) ?_
    refine (yo _ L (8 + 3 * k) _ 256 x8 wn ls hn (by omega) (by omega) (by omega) Hx8.out).mono ?_; rintro e wm ⟨rfl, zl⟩; refine ⟨_, rfl, ?_⟩; have hz := hKx () wm trivial zl
    dsimp only [zN] at hz
    exact hz
   rintro ⟨⟩
   dsimp only [zN]
   simp only [zo]; refine kX 2 ?_; refine zD (by rfl) (by first | rfl | simp [Region.wanted, yielded]) ?_ ?_
   ·intro wn za hE Kx hKx
    have zf := B.size; have zg := za.size; replace B := B.trans (za.mono B.size)
    (try replace r2 := r2.below za)
    (try replace r3 := r3.below za)
    (try replace od := od.below za)
    refine Kq (E := j3) _ rfl ⟨x6 - 100, x7 - 100, 255 - x8⟩ rfl (by omega) ?_; intro b wm h1 h2 ht zl zm; exact hKx b wm ⟨Nat.le_trans za.size h1, ht⟩ (zl.mono h1)
   rintro b_s50
   dsimp only [zN, bsG]
   simp only [zo]; refine qi ?_; intro wn za hE; have zf := B.size; have zg := za.size; replace B := B.trans (za.mono B.size)
   (try replace r2 := r2.below za)
   (try replace r3 := r3.below za)
   (try replace od := od.below za)
   obtain ⟨hge_s50, s50⟩ : _ ∧ zK _ _ _ _ := hE 21; clear hE; try simp only [List.drop_succ_cons, List.drop_zero]
   go_wp2_with (first | (refine kT (t := 30) rfl _ _ rfl _ 0 rfl _ _ _ rfl r3 rfl (qG B (by omega) ?_); clear r3 B; intro wn r3 ze zf zg B; (try replace r2 := r2.of_eq (ze.block _ r2.lt (by omega))); replace od := od.chg ze (by omega); simp only [zo]) | (at_builtin; refine jw rfl _ _ rfl _ _ rfl rfl od ((xp.one s50)) (by simp only [List.length_append, List.length_cons, List.length_nil]; omega) (by omega) ?_; intro v_od wn ht za; have zf := B.size; have hbz := za.size; replace B := B.trans (za.mono (by omega)); clear od; (try replace r2 := r2.of_eq (za.block _ (by omega))); (try replace r3 := r3.of_eq (za.block _ (by omega))); have od := ht; clear ht; obtain ⟨a_od, c_od, hv, hco⟩ := od.len; (try simp only [List.length_append, List.length_cons, List.length_nil, Nat.zero_add] at hv hco); subst hv; simp only [zo]) | fail)
   refine zL.normal ?_; replace r3 : zK 30 _ b_r3 (jE (.slice a_od (P.length + 1) c_od) (qo L)) := r3; go_upto_region 5 with fail
   refine wp_region_lit ?_; refine zy 3 ?_; refine wpList_nil ?_; go_wp2; go_roundw
   case rel => exact ⟨k + 1, _, _, P ++ [⟨x6 - 100, x7 - 100, 255 - x8⟩], by omega, by go_num, HN, B, by omega, r2, by rw [List.length_append]; exact r3, by rw [List.length_append]; exact od⟩
   case measure => simp [intOf]; omega
  ·have q1 : decide ((k : Int) < (nn : Int)) = false := decide_eq_false (by omega)
   have q2 : decide (k < nn) = false := decide_eq_false hkn; have HF := Lib.hid (show (qo L).pts = P from by rw [← HP.out, show k = nn by omega, ← HNV.out]; rfl)
   go_upto_region 4 with fail
   refine wp_region_lit ?_; refine zy 3 ?_; refine wpList_nil ?_; go_upto_region 7 with fail
   have rs := od.mono (show w.heap.size ≤ b0 by omega); refine wp_region_lit ?_; refine zy 1 ?_
   (refine zq (t := 30) rfl _ _ rfl _ rfl _ rfl r2 (by kernel_rfl) rfl (by simp [jE, Value.oneCell']) (qG B (by omega) ?_); clear r2 B; intro wn r2 ze zf zg B; replace rs := (od.chg ze (by omega)).mono (show w.heap.size ≤ b0 by omega); simp only [zo])
   refine wpList_nil ?_; first | (refine bodyPost_ret (zz (t := 30) rfl _ _ (b_r2) rfl r2 Tryz.isAgg30 (by kernel_rfl)) rfl ?_) | (go_step; refine bodyPost_ret (zz (t := 30) rfl _ _ (b_r2) rfl r2 Tryz.isAgg30 (by kernel_rfl)) rfl ?_) | (go_step; go_step; refine bodyPost_ret (zz (t := 30) rfl _ _ (b_r2) rfl r2 Tryz.isAgg30 (by kernel_rfl)) rfl ?_) | (go_step; go_step; go_step; refine bodyPost_ret (zz (t := 30) rfl _ _ (b_r2) rfl r2 Tryz.isAgg30 (by kernel_rfl)) rfl ?_) | (go_step; go_step; go_step; go_step; refine bodyPost_ret (zz (t := 30) rfl _ _ (b_r2) rfl r2 Tryz.isAgg30 (by kernel_rfl)) rfl ?_) | (go_step; go_step; go_step; go_step; go_step; refine bodyPost_ret (zz (t := 30) rfl _ _ (b_r2) rfl r2 Tryz.isAgg30 (by kernel_rfl)) rfl ?_)
   rw [HF.out]; exact ⟨_, _, rfl, rs, B⟩
end Go.Proofs.YtepelndbbhdofaaGreatDoor
/- A range over a function whose iterator writes a block of its own; regions that call the loop's body. -/
namespace Go.Proofs.YtepelndbbhdofaaGreatDoor
open Go Go.RowKit Go.Shelf Pl
set_option linter.unusedVariables false
set_option linter.unusedSimpArgs false
set_option maxRecDepth 20000
/-! ### The fence that bars nothing: plain walks within -/
section
variable {P : Program} {n : Nat}
theorem Km {o : Oper} {a : Act} {w : World} {K K' : Act → World → Prop} {M : Act → World → Prop} {Q : Exit → Act → World → Prop} (hd : ∀ c, o.op ≠ .defer c) (hK : ∀ a w, K' a w → K a w) (h : o.wp P a w K' (qw M)) : o.wpIn Fence.wide n P a w K Q := by
 refine ⟨fun _ _ => trivial, ?_⟩
 rw [Oper.semAt_eq _ _ _ hd]
 unfold Oper.wp at h
 generalize (execOp a.eval o).run P w = z at *
 cases z with
 | ok x w' =>
  cases x with
  | value v => exact hK _ _ h
  | skip => exact hK _ _ h
  | defer d => exact hK _ _ h
  | enter f args =>
   refine ⟨fun h => (by cases h), callsIn_wide.2 (Calls.mono h fun e w'' he => ?_)⟩; cases e with
   | returned v => exact hK _ _ he
   | panicked c => exact he.elim
   | outgrown => exact absurd he (qw.out M)
  | row s args =>
   refine ⟨fun h => (by cases h), fun c cs _ => ?_⟩; obtain ⟨v, w'', h1, h2⟩ := h c cs; exact ⟨v, w'', hK _ _ h1, stepsIn_wide.2 h2⟩
  | _ => exact absurd h (by simp [Oper.upon])
 | halt x w' =>
  cases x with
  | panic v => exact absurd h (by simp [Oper.upon, qw])
  | _ => exact absurd h (by simp [Oper.upon])
theorem WO {ops : Array Oper} {Q : Exit → Act → World → Prop} {l2 : List Oper} : ∀ (l : List Oper) (a : Act) (w : World), (∀ o ∈ l, ∀ c, o.op ≠ .defer c) → wpList P ops (qw fun a w => wpListIn Fence.wide n P ops Q l2 a w) l a w → wpListIn Fence.wide n P ops Q (l ++ l2) a w
 | [], a, w, _, h => h
 | o :: rest, a, w, hd, h => by
  unfold wpList at h; rw [List.cons_append]; unfold wpListIn; have ih := WO (ops := ops) (Q := Q) (l2 := l2) rest; by_cases hw : Region.wanted o (yielded ops a.tmps) = true
  ·rw [if_pos hw] at h ⊢
   rcases h with h | h
   ·exact Km (hd o (List.mem_cons_self ..)) (fun a w hh => ih a w (fun o ho => hd o (List.mem_cons_of_mem _ ho)) hh) h
   ·exact absurd h.2 (qw.out _)
  ·rw [if_neg hw] at h ⊢
   exact ⟨fun _ _ => trivial, ih _ _ (fun o ho => hd o (List.mem_cons_of_mem _ ho)) h⟩
/-- A region whose last operations are walked within the fence. -/
theorem za7 {id : Nat} {l : List Oper} {Q : Exit → Act → World → Prop} {a : Act} {w : World} (k : Nat) (hd : wU (l.take k) = true) (h : wpList P l.toArray (qw fun a w => wpListIn Fence.wide n P l.toArray Q (l.drop k) a w) (l.take k) a w) : (Code.region id l.toArray false).wpIn Fence.wide n P Q a w := by
 have := WO (Q := Q) (l2 := l.drop k) (l.take k) a w (fun o ho => vB hd ho) h
 rw [List.take_append_drop] at this
 exact wpIn_region_lit this
theorem V6 {ops : Array Oper} {K K' M : Act → World → Prop} {Q : Exit → Act → World → Prop} (hd : ∀ o ∈ ops.toList, ∀ c, o.op ≠ .defer c) (hK : ∀ a w, K' a w → K a w) {i : Nat} {a : Act} {w : World} (h : wpOp P ops (qw M) i K' a w) : wpOpIn Fence.wide n P ops Q i K a w := by
 unfold wpOp at h
 unfold wpOpIn
 cases ho : ops[i]? with
 | none => rw [ho] at h; exact hK _ _ h
 | some o =>
  rw [ho] at h; simp only at h ⊢; by_cases hw : Region.wanted o (yielded ops a.tmps) = true
  ·rw [if_pos hw] at h ⊢
   rcases h with h | h
   ·exact Km (hd o (by rw [Array.mem_toList_iff]; exact Array.mem_of_getElem? ho)) hK h
   ·exact absurd h.2 (qw.out M)
  ·rw [if_neg hw] at h ⊢
   exact ⟨fun _ _ => trivial, hK _ _ h⟩
theorem uP {ops : Array Oper} {md : Region.Mode} {C : World → Prop} {k g : Nat} {L : Array Bool → Act → Prop} {Q : Exit → Act → World → Prop} (hd : ∀ o ∈ ops.toList, ∀ c, o.op ≠ .defer c) (hL : ∀ done a w, C w → L done a → wpAnyIn Fence.wide n P md ops Q g done a w) :
  ∀ (f : Nat) (done : Array Bool) (a : Act) (w : World), C w → wS P md ops C k L f done a → wpAnyIn Fence.wide n P md ops Q (f + g) done a w := by
 intro f
 induction f with
 | zero => intro done a w hw h; rw [Nat.zero_add]; exact hL _ _ _ hw h
 | succ f ih =>
  intro done a w hw h; rw [show f + 1 + g = (f + g) + 1 by omega]; exact ⟨fun h0 => absurd h0 h.1, fun i hi => V6 (M := fun _ _ => True) hd (fun _ _ h => h) (wpOp_of_qOp hw (fun a' w' hw' h' => ih _ a' w' hw' h') (h.2 i hi).2)⟩
theorem uf {ops : Array Oper} {md : Region.Mode} {Q : Exit → Act → World → Prop} : ∀ (l : List Oper) (k : Nat) (listed : Array Bool) (a : Act) (w : World), (∀ j, l[j]? = ops[k + j]?) →
  Region.seqB md ops l.length k listed = true → wpListIn Fence.wide n P ops Q l a w → wpAnyIn Fence.wide n P md ops Q l.length listed a w
 | [], _, _, _, _, _, hB, h => ⟨by simpa [Region.seqB] using hB, h⟩
 | o :: l, k, listed, a, w, hl, hB, h => by
  have h0 : ops[k]? = some o := by simpa using (hl 0).symm
  simp only [List.length_cons, Region.seqB, Bool.and_eq_true, decide_eq_true_eq] at hB; refine ⟨fun h1 => (by rw [hB.1] at h1; cases h1), fun i hi => ?_⟩
  rw [hB.1] at hi; have hik : i = k := by simpa using hi
  subst hik; have hw : wpOpIn Fence.wide n P ops Q i (wpListIn Fence.wide n P ops Q l) a w := by unfold wpOpIn; simp only [h0]; exact h
  exact wpOpIn_mono (fun a' w' h' => uf l (i + 1) _ a' w' (fun j => by have := hl (j + 1); simpa [Nat.add_assoc, Nat.add_comm 1 j] using this) hB.2 h') hw
/-- A region that draws its order: a quiet head, then a tail in order, within the fence. -/
theorem ue {id : Nat} {Q : Exit → Act → World → Prop} {a : Act} {w : World} {l : List Oper} (k : Nat) (hm : P.follows .mixedOrders = true) (hdf : wU l = true) (hB : Region.lexTailB .any l.toArray k = true)
  (h : wpQuiet P l.toArray (fun w' => ∃ u, w' = ov w u) (fun a' => ∀ w', Below w.heap.size w w' → wpListIn Fence.wide n P l.toArray Q (l.drop k) a' w') (l.take k) a) : (Code.region id l.toArray true).wpIn Fence.wide n P Q a w := by
 have hdo : ∀ o ∈ l.toArray.toList, ∀ c, o.op ≠ .defer c := fun o ho => vB hdf (by simpa using ho)
 simp only [Region.lexTailB, Bool.and_eq_true, decide_eq_true_eq] at hB
 obtain ⟨⟨⟨⟨hsel, hn⟩, hs⟩, hc⟩, hlex⟩ := hB
 have hn' : k < l.length := by simpa using hn
 have htl : (l.take k).length = k := by simp; omega
 have hdl : (l.drop k).length = l.toArray.size - k := by simp
 have inv0 : HeadInv .any l.toArray k (Array.replicate l.toArray.size false) :=
  ⟨by simp, fun j oj _ hl => (by rw [getD_replicate_false] at hl; cases hl), fun t _ ht => getD_in (by simpa using ht) (getD_replicate_false _ _)⟩
 have H := ZQ (md := .any) (g := l.toArray.size - k) hsel hs hc hn (l.take k) 0 _ a (fun j hj => by
  have hj' : j < k := by rw [htl] at hj; exact hj
  simp [hj']) (by simpa using htl) inv0 (by rw [htl]; exact hlex) h
 refine wpIn_region_any hm ?_
 have := uP (n := n) (Q := Q) (g := l.toArray.size - k) hdo (fun d a' w' hw' hL => by
  obtain ⟨u, rfl⟩ := hw'; have := uf (n := n) (md := .any) (Q := Q) (l.drop k) k d a' (ov w u) (fun j => by simp [List.getElem?_drop]) (by rw [hdl]; exact hL.1) (hL.2 _ (qS w u))
  rwa [hdl] at this) _ _ _ w.drew ⟨w.drew, zG ((Below.refl _ _).drew)⟩ H
 rw [htl, show k + (l.toArray.size - k) = l.toArray.size by omega] at this
 exact this
end
/-! ### An iterator that writes one block of its own: three cells, the first block that it makes -/
def YP (B : Nat) (W : World) (r : Nat) : Prop := r = B ∧ ∃ cs t, W.heap[r]? = some (.cells cs t (0, 0)) ∧ cs.size = 3
def wH {β : Type} (B : Nat) (J : β → World → Prop) : Prop := ∀ s W W' row, J s W → W.grownBy W' row → (∀ r, row = some r → YP B W r) → J s W'
def zbt {β : Type} (b : Nat) (I : β → World → Prop) : Prop := ∀ s W W' row, I s W → W.grownBy W' row → (∀ r, row = some r → b ≤ r ∧ ((∃ o : Obj, W.heap[r]? = some o ∧ o.isCells = false) ∨ YP (b + 2) W r)) → I s W'
theorem zbt.from {β : Type} {b : Nat} {I : β → World → Prop} (h : zbt b I) : OwnFrom b I := fun s W W' row hs hg hr => h s W W' row hs hg fun r e => ⟨(hr r e).1, .inl (hr r e).2⟩
theorem wH.below {β : Type} {B : Nat} {J : β → World → Prop} (h : wH B J) {s : β} {W W' : World} (hs : J s W) (hb : Below W.heap.size W W') : J s W' := h s W W' none hs (xz hb) (fun r e => by cases e)
theorem wH.chg {β : Type} {B : Nat} {J : β → World → Prop} (h : wH B J) {s : β} {W W' : World} {t : TypeId} {cs : Array Value} (hs : J s W) (hb : zK t W B cs) (h3 : cs.size = 3) (hc : qV B W W') : J s W' :=
 h s W W' (some B) hs ⟨hc.os, hc.tape, hc.output, hc.size, fun k hk hne => hc.block k hk (fun e => hne (by rw [e]))⟩ (fun r e => by cases e; exact ⟨rfl, cs, t, hb, h3⟩)
def Zq {α : Type} (F : Fence) (n : Nat) (P : Program) (g : Nat) (lb : Array Value) (encs : α → Array Value) (Kp : World → World → Prop) (S Sp : List α → Prop) (N : Nat) (w : World) : Prop :=
 ∀ (l : Nat) (J Jx : List α → World → Prop) (W : World), Below w.heap.size w W → wH W.heap.size J → wH W.heap.size Jx →
  (∀ pre x W1, J pre W1 → pre.length < N → W.heap.size < W1.heap.size → YieldAt F (n - 1) P l (encs x) W1 fun e W' =>
   (e = .returned (.bool true) ∧ J (pre ++ [x]) W' ∧ Kp W1 W') ∨ (e = .returned (.bool false) ∧ Jx (pre ++ [x]) W')) →
  J [] W →
  CallsIn F n P g (#[.func (.yield l) #[] #[]] ++ lb) W fun e W' => (∃ v, e = .returned v) ∧ ((∃ xs, S xs ∧ J xs W') ∨ (∃ pre, Sp pre ∧ Jx pre W'))
section
variable {F : Fence} {n : Nat} {P : Program}
/-- The statement 'for x := range seq { .. }' whose head may lay new blocks: 'As x' says what the head leaves. -/
theorem ZW {α : Type} {g : Operand} {ps : Array Tmp} {assign body : Code} {Q : Exit → Act → World → Prop} {a : Act} {w : World}
  (hro : F.round = none) (h1 : 1 ≤ n) {gf : Nat} {lb : Array Value} (hg : a.eval g = .func (.func gf) #[] lb) (hFg : F.fn gf) (eg : ∀ args w, (callFunc gf args).run P w = .ok (.enter gf args) w)
  {encs : α → Array Value} {Kp : World → World → Prop} {S Sp : List α → Prop} {N : Nat} {w0 : World} (hseq : Zq F (n - 1) P gf lb encs Kp S Sp N w0)
  (hKt : ∀ {A B C : World}, Kp A B → Kp B C → Kp A C) (hKb : ∀ (W : World) (l : Nat) (o o' : Obj), w.heap.size ≤ l → W.heap[l]? = some o → o.isCells = false → o.isWalk = false → Kp W (W.putObj l o'))
  (hKg : ∀ (A B : World), Below A.heap.size A B → Kp A B) (hb0 : Below w0.heap.size w0 w) (hps : ∀ x, (encs x).size = ps.size)
  (I : List α → World → Prop) (hI0 : zbt w.heap.size I) (h0 : I [] w) (As : α → Act → World → Prop) (hAs : ∀ x, OwnFrom w.heap.size (As x))
  (hassign : ∀ (l : Nat) (pre : List α) (x : α) (W : World) (K : Act → World → Prop), I pre W → w.heap.size + 2 < W.heap.size → (∀ a' W', Below W.heap.size W W' → As x a' W' → K a' W') →
   assign.wpIn (F.inRound l) (n - 1 - 1) P (Exit.then K (fun _ _ _ => False)) { tmps := (ps.zip (encs x)).foldl (fun t (p, v) => t.setIfInBounds p v) a.tmps, defers := [] } W)
  (hbody : ∀ (l : Nat) (pre : List α) (x : α) (W : World) (a' : Act), I pre W → As x a' W → pre.length < N → body.wpIn (F.inRound l) (n - 1 - 1) P (ownPostK Kp I (fun _ _ _ => False) (pre ++ [x]) W) a' W)
  (hdone : ∀ (D : Nat) (xs : List α) (W : World), w.heap.size ≤ D → S xs → I xs W → W.heap[D]? = some (.deferred (some [])) → Q .normal { a with defers := { target := .collected D, args := #[] } :: a.defers } W) :
  (Code.rangeFunc g ps assign body).wpIn F n P Q a w := by
 have hI : OwnFrom w.heap.size I := hI0.from
 refine wpIn_rangeFunc fun fn hfn => ?_
 rw [hro]
 obtain ⟨rc, hrc⟩ : ∃ rc : LoopState → Option Code → Loop, rc = fun st pe => { state := st, pending := pe, fn, tmps := a.tmps, params := ps, assign, body, defers := w.heap.size } := ⟨_, rfl⟩
 obtain ⟨W1, hW1⟩ : ∃ W1, (w.alloc (.deferred (some []))).alloc (.loop (rc .ready none)) = W1 := ⟨_, rfl⟩
 have blkL : W1.heap[w.heap.size + 1]? = some (.loop (rc .ready none)) := by
  have := World.alloc_heap_new (w.alloc (.deferred (some []))) (.loop (rc .ready none)); rw [← hW1]
  rwa [World.size_alloc] at this
 have blkD : W1.heap[w.heap.size]? = some (.deferred (some [])) := by
  rw [← hW1]; exact (Below.heap_alloc _ _ _ (by simp)).trans (World.alloc_heap_new w _)
 have grown : Below w0.heap.size w0 W1 := by
  rw [← hW1]; exact hb0.trans ((((Below.refl _ w).alloc (Nat.le_refl _) _).alloc (by simp) _).mono hb0.size)
 have szW1 : w.heap.size ≤ W1.heap.size := by rw [← hW1]; simp; omega
 have Jr : I [] W1 := by rw [← hW1]; exact hI.alloc _ (hI.alloc _ h0)
 refine ⟨w.heap.size + 1, [{ target := .collected w.heap.size, args := #[] }], W1, { target := .fn (.func gf) lb, args := #[.func (.yield (w.heap.size + 1)) #[] #[]] }, W1, gf,
  #[.func (.yield (w.heap.size + 1)) #[] #[]] ++ lb, W1, ?_, ?_, ?_, ?_, fun _ => h1, ?_⟩
 ·rw [← hW1, hrc]; exact run_enterLoop_outer _ _ _ _ _
 ·simp only [resolve, hg]
  simp [go_sem]
 ·intro f' hf'
  simp [Target.leads] at hf'
  subst hf'; exact hFg
 ·simp [invoke, go_sem, eg]
 have hszW1 : W1.heap.size = w.heap.size + 2 := by rw [← hW1]; simp
 refine (hseq (w.heap.size + 1)
  (fun pre W => I pre W ∧ W.heap[w.heap.size + 1]? = some (.loop (rc .ready none)) ∧ W.heap[w.heap.size]? = some (.deferred (some [])))
  (fun _ _ => False) W1 grown
  (fun s A B row hs hg' hr => ⟨hI0 s A B row hs.1 hg' (fun r e => ⟨by have := (hr r e).1; omega, .inr (by have := hr r e; rwa [hszW1] at this)⟩), (hg'.block _ (Array.getElem?_eq_some_iff.1 hs.2.1).1 (fun e => by have := (hr _ e.symm).1; omega)).trans hs.2.1, (hg'.block _ (Array.getElem?_eq_some_iff.1 hs.2.2).1 (fun e => by have := (hr _ e.symm).1; omega)).trans hs.2.2⟩)
  (fun _ _ _ _ hs _ _ => hs) ?_ ⟨Jr, blkL, blkD⟩).mono ?_
 ·rintro pre x W ⟨hi, hl, hk⟩ hlen hbig
  have hy := run_yield (P := P) (args := encs x) hl (by rw [hrc]; exact hps x)
  rw [hrc] at hy; refine ⟨fn, _, assign, body, hy, roundIn_of_wpIn hfn (hassign _ pre x W _ hi (by rw [hszW1] at hbig; exact hbig) fun a' V hb ha => ?_)⟩
  have hlV : V.heap[w.heap.size + 1]? = some (.loop (rc .ready none)) := (hb.block _ (Array.getElem?_eq_some_iff.1 hl).1).trans hl; have hkV : V.heap[w.heap.size]? = some (.deferred (some [])) := (hb.block _ (Array.getElem?_eq_some_iff.1 hk).1).trans hk; have hiV : I pre V := hI pre W V none hi (xz hb) (fun r e => by cases e); refine ⟨_, run_beginRound hlV (by rw [hrc]), ?_⟩; obtain ⟨V1, hV1⟩ : ∃ V1, V.putObj (w.heap.size + 1) (.loop { rc .ready none with state := .busy }) = V1 := ⟨_, rfl⟩; have hl1 : V1.heap[w.heap.size + 1]? = some (.loop { rc .ready none with state := .busy }) := by rw [← hV1]; exact World.putObj_heap_same (Array.getElem?_eq_some_iff.1 hlV).1
  have hk1 : V1.heap[w.heap.size]? = some (.deferred (some [])) := by rw [← hV1]; exact (World.putObj_heap_other (by omega)).trans hkV
  have hKp1 : Kp W V1 := hKt (hKg _ _ hb) (by rw [← hV1]; exact hKb _ _ _ _ (by omega) hlV rfl rfl)
  have hi1 : I pre V1 := by rw [← hV1]; exact hI.putObj _ hiV (by omega) hlV rfl
  have ha1 : As x a' V1 := by rw [← hV1]; exact (hAs x).putObj _ ha (by omega) hlV rfl
  rw [hV1]; refine wpIn_mono (hbody _ pre x V1 a' hi1 ha1 hlen) ?_; rintro e a3 W3 hp; cases e with
  | normal =>
   obtain ⟨ko, kp, hi3⟩ := hp; have hl3 := ko.same _ _ hl1 rfl; have hk3 := ko.same _ _ hk1 rfl; have he := run_endRound (P := P) none hl3; rw [hrc] at he; refine ⟨_, _, he, .inl ⟨rfl, ⟨hI.putObj _ hi3 (by omega) hl3 rfl, ?_, (World.putObj_heap_other (by omega)).trans hk3⟩, hKt (hKt hKp1 kp) (hKb _ _ _ _ (by omega) hl3 rfl rfl)⟩⟩; rw [World.putObj_heap_same (Array.getElem?_eq_some_iff.1 hl3).1, hrc]
   rfl
  | ret => exact hp.2.elim
  | exit id => exact hp.2.elim
  | goto t => exact hp.2.elim
  | panic ch => exact hp.elim
  | outgrown => exact hp.elim
 ·rintro e W2 ⟨⟨v, rfl⟩, ⟨xs, hS, hi, hl, hk⟩ | ⟨_, _, hf⟩⟩
  ·have he := run_endLoop (P := P) hl (by rw [hrc]; simp)
   rw [hrc] at he; exact ⟨none, _, he, hdone _ xs _ (Nat.le_refl _) hS (hI.putObj _ hi (by omega) hl rfl) ((World.putObj_heap_other (by omega)).trans hk)⟩
  ·exact hf.elim
end
/-! ### What a round keeps: the blocks below n0, but one; every block of a point -/
structure Zo (n0 c : Nat) (W W' : World) : Prop where
 size : W.heap.size ≤ W'.heap.size
 low : ∀ k, k < n0 → k ≠ c → k < W.heap.size → W'.heap[k]? = W.heap[k]?
 pts : ∀ (k : Nat) (cs : Array Value), zK 43 W k cs → zK 43 W' k cs
theorem Zo.trans {n0 c : Nat} {X Y Z : World} (h : Zo n0 c X Y) (k : Zo n0 c Y Z) : Zo n0 c X Z :=
 ⟨Nat.le_trans h.size k.size, fun i hi hc hl => (k.low i hi hc (Nat.lt_of_lt_of_le hl h.size)).trans (h.low i hi hc hl), fun i cs hi => k.pts i cs (h.pts i cs hi)⟩
theorem Zo.below {n0 c : Nat} {W W' : World} (h : Below W.heap.size W W') : Zo n0 c W W' :=
 ⟨h.size, fun k _ _ hl => h.block k hl, fun k cs hk => zK.of_eq hk (h.block k (zK.lt hk))⟩
theorem Zo.putObj {n0 c : Nat} (W : World) (l : Nat) (o o' : Obj) (hl : n0 ≤ l) (ho : W.heap[l]? = some o) (hc : o.isCells = false) : Zo n0 c W (W.putObj l o') :=
 ⟨by simp [World.putObj], fun k hk _ _ => World.putObj_heap_other (by omega), fun k cs hk => by
  have hne : k ≠ l := fun e => by
   subst e; rw [show W.heap[k]? = _ from hk] at ho; cases ho
   cases hc
  exact (World.putObj_heap_other hne).trans hk⟩
/-- All of old stands, but one block of another kind. -/
theorem Zo.exc {n0 c : Nat} {W W' : World} (hs : W.heap.size ≤ W'.heap.size) (h : ∀ k, k < W.heap.size → k ≠ c → W'.heap[k]? = W.heap[k]?) {t : TypeId} {cs : Array Value} (hc : zK t W c cs) (ht : t ≠ 43) : Zo n0 c W W' :=
 ⟨hs, fun k _ hk hl => h k hl hk, fun k ds hk => by
  have hne : k ≠ c := fun e => by
   subst e; have := (show W.heap[k]? = _ from hk).symm.trans hc
   injection this with this
   injection this with _ e _
   exact ht e.symm
  exact zK.of_eq hk (h k (zK.lt hk) hne)⟩
end Go.Proofs.YtepelndbbhdofaaGreatDoor
/- The iterator over a stroke's dabs: its contract. -/
namespace Go.Proofs.YtepelndbbhdofaaGreatDoor
open Go.RowKit Go.Shelf Pl
attribute [local go_sem] Oper.semAt_some
set_option linter.unusedVariables false
set_option linter.unusedSimpArgs false
set_option maxRecDepth 20000
theorem zb3 (v : Value) (s : jd) (w : World) : Calls Tryz.prog 58 #[.agg (jE v s)] w fun e w' => ∃ b, e = .returned (.func (.func 109) #[] #[.pointer (some ⟨b, 0, none⟩)]) ∧ (w.heap.size ≤ b ∧ b ≤ w.heap.size) ∧ zK 30 w' b (jE v s) ∧ Below w.heap.size w w' := by
 have B := Below.refl w.heap.size w
 go_enter Tryz.func58, Tryz.ntmps58
 go_upto_region 0 with fail
 refine wp_region_lit ?_
 (refine zt (t := 30) rfl _ rfl _ rfl (zY B ?_); clear B; intro b_r1 wn zb zd r1 za zf zk B; simp only [zo])
 refine zy 1 ?_
 refine wpList_nil ?_
 have k1 : w.heap.size ≤ b_r1 ∧ b_r1 ≤ w.heap.size := ⟨by omega, by omega⟩
 go_wp2
 go_ret
 exact ⟨_, rfl, k1, r1, B⟩
theorem XW {p q M : Int} (hp : -M ≤ p ∧ p ≤ M) (hq : -M ≤ q ∧ q ≤ M) : -(M * M) ≤ p * q ∧ p * q ≤ M * M := by
 have h1 : 0 ≤ (M - p) * (M + q) := Int.mul_nonneg (by omega) (by omega)
 have h2 : 0 ≤ (M + p) * (M - q) := Int.mul_nonneg (by omega) (by omega)
 have h3 : 0 ≤ (M - p) * (M - q) := Int.mul_nonneg (by omega) (by omega)
 have h4 : 0 ≤ (M + p) * (M + q) := Int.mul_nonneg (by omega) (by omega)
 simp only [Int.sub_mul, Int.mul_sub, Int.add_mul, Int.mul_add] at h1 h2 h3 h4
 constructor <;> omega
theorem zfS {s : jd} (h : JI s) {k : Nat} (hk : k ≤ xl s) : 0 ≤ (k : Int) * s.spa ∧ s.pha + k * s.spa ≤ 5300000 := by
 have h1 := Vz h
 have h2 := j5 (a := (k : Int)) (b := s.spa) (m := 1024) (k := 4096) (by omega) (by omega) (by have := h.s1; omega) h.s2
 have := h.p2
 omega
theorem zc0 (s : jd) (k : Nat) : s.pha + ((k + 1 : Nat) : Int) * s.spa = s.pha + k * s.spa + s.spa := by
 rw [Int.natCast_add, Int.add_mul]
 omega
theorem Ws {s : jd} (h : JI s) (hn : ¬ s.pts.length = 1) {k : Nat} : k < xl s ↔ s.pha + k * s.spa < vc s.pts := by
 unfold xl
 rw [if_neg hn]
 exact QO h.s1
set_option maxHeartbeats 8000000 in
theorem JA (s : jd) (hv : JI s) (g o c b b8 n0 n : Nat) (hn1 : 1 ≤ n) (w : World) (r1 : zK 30 w b (jE (.slice (some ⟨g, o, none⟩) s.pts.length c) s)) (hcap : s.pts.length ≤ c) (pc : zW j3 g o s.pts w) (hb : b < n0) (hb8 : b ≠ b8) (hg : g < n0) (hg8 : g ≠ b8) (hn0 : n0 ≤ w.heap.size) :
  Zq Fence.wide n Tryz.prog 109 #[.pointer (some ⟨b, 0, none⟩)] (fun i : Fin (xl s) => #[.agg (vZ.enc (xg s i.val))]) (Zo n0 b8) (fun xs => xs = List.finRange (xl s)) (fun pre => ∃ k, pre = kw (xl s) k) (xl s) w := fun l J Jx W0 hW hJa hJxa hY h0 => by
 have r1 := r1.of_eq (hW.block _ r1.lt)
 have pc := pc.of_eq (hW.block _ pc.lt)
 have hn0 := Nat.le_trans hn0 hW.size
 have B := Below.refl W0.heap.size W0
 have HA := Lib.hid hJa
 have HY := Lib.hid hY
 have HV := Lib.hid hv
 have HJ0 := Lib.hid h0
 have hl1 := hv.l1
 have hl2 := hv.l2
 have hs1 := hv.s1
 have hs2 := hv.s2
 have hr1 := hv.r1
 have hr2 := hv.r2
 have hq1 := hv.p1
 have hq2 := hv.p2
 have hp0 := ju (l := s.pts) (show 0 < s.pts.length by omega)
 have q0 : decide (0 < s.pts.length) = true := decide_eq_true (by omega)
 have q0' : decide ((0 : Int) < (s.pts.length : Int)) = true := decide_eq_true (by omega)
 clear hW hJa hJxa hY h0 hv
 refine callsIn_wide.2 ?_
 show Calls Tryz.prog 109 #[.func (.yield l) #[] #[], .pointer (some ⟨b, 0, none⟩)] W0 _
 go_enter Tryz.func109, Tryz.ntmps109
 go_upto_region 0 with fail
 refine wp_region_lit ?_
 refine j4 4 ?_
 repeat (first | go_big_quiet_skip | (go_big_quiet_want; first | ((first | refine zn (t := 43) rfl _ _ _ rfl (fun w hw => (jX pc w hw).load Tryz.isAgg43 hp0) (by first | rfl | omega) ?_ | refine qB ?_ | refine qC ?_); simp only [zo]; go_big_quiet_on) | (go_big_quiet_op; go_big_quiet_on)))
 refine wpQuiet_nil ?_
 (refine zr (t := 43) rfl _ (km _ _ rfl) (zY B ?_); clear B; intro b_f3 wn zb zd f3 za zf zk B; (try have zh := r1.lt); (try replace r1 := r1.below (za.mono zb)); (try have zh := pc.lt); (try replace pc := pc.below (za.mono zb)); simp only [zo])
 (refine zq (t := 43) rfl _ _ rfl _ rfl _ rfl f3 (by kernel_rfl) rfl (by simp [j3, Value.oneCell']) (qG B (by omega) ?_); clear f3 B; intro wn f3 ze zf zg B; (try replace r1 := r1.of_eq (ze.block _ r1.lt (by omega))); (try replace pc := pc.of_eq (ze.block _ pc.lt (by omega))); simp only [zo])
 refine wpList_nil ?_
 replace f3 : zK 43 _ b_f3 (j3.enc (jJ s.pts 0)) := f3
 have KF := Lib.hid (show b_f3 = W0.heap.size by omega)
 have hf0 := f3.lt
 have hJ := HA.out.below HJ0.out B
 go_upto_region 1 with fail
 by_cases h1 : s.pts.length = 1
 ·have q1 : ((s.pts.length : Int) == 1) = true := by rw [h1]; rfl
  have q1' : (s.pts.length == 1) = true := by rw [h1]; rfl
  have hc1 : xl s = 1 := by unfold xl; rw [if_pos h1]
  obtain ⟨R, hR⟩ : ∃ R, qm (s.rad * (jJ s.pts 0).p) 255 = R := ⟨_, rfl⟩; have hd : xg s 0 = ⟨(jJ s.pts 0).x, (jJ s.pts 0).y, R⟩ := by unfold xg; rw [if_pos h1]; unfold zch; rw [hR]
  obtain ⟨_, _, _, _, hpp1, hpp2⟩ := HV.out.pt (show 0 < s.pts.length by omega); have HR := Lib.hid hR; clear hR; refine wp_region_lit ?_; refine zy 2 ?_
  refine zw (by first | rfl | simp [Region.wanted, yielded]) rfl Tryz.underlying26 rfl ?_; simp only [zo]; refine zy 1 ?_; refine wpList_nil ?_; go_upto_region 2 with fail
  refine (wpIn_wide (n := n)).1 ?_; refine za7 9 (by kernel_rfl) ?_; simp only [jZ, Nat.reduceAdd]; refine zy 8 ?_
  refine je (enters_of Tryz.func110 (by kernel_rfl) rfl) (c := ze9 _ s (jJ s.pts 0).x (jJ s.pts 0).y (jJ s.pts 0).p R _ ⟨by omega, hr2⟩ ⟨hpp1, hpp2⟩ HR.out) (h := ?_); rintro e wn ⟨rfl, za⟩; have zf := B.size; have zg := za.size; replace B := B.trans (za.mono B.size)
  (try replace r1 := r1.below za)
  (try replace pc := pc.below za)
  (try replace f3 := f3.below za)
  refine ⟨_, rfl, ?_⟩; simp only [zo]; refine wpList_nil ?_; refine qw.at ?_; try simp only [jZ, Nat.reduceAdd]
  replace hJ := HA.out.below HJ0.out B; obtain ⟨fn, tmps, assign, body, hy, hRd⟩ := HY.out (kw (xl s) 0) ⟨0, by omega⟩ _ hJ (by rw [wj (by omega)]; omega) (by have e1 := KF.out; have e2 := f3.lt; omega)
  try dsimp only at hy
  rw [hd] at hy; replace hy := hy; have ee : vZ.enc ⟨(jJ s.pts 0).x, (jJ s.pts 0).y, R⟩ = #[.int .i64 (jJ s.pts 0).x, .int .i64 (jJ s.pts 0).y, .int .i64 R] := rfl; rw [ee] at hy; have ze : 0 < xl s := by omega
  rw [← Zz ze] at hRd; gi_wp2
  refine hRd.mono ?_; rintro e W1 (⟨rfl, hJ1, hkp⟩ | ⟨rfl, hx1⟩)
  ·gi_wp2
   go_wp2; refine bodyPost_ret (results_none rfl _ _ _) rfl ?_; have eF : kw (xl s) (0 + 1) = List.finRange (xl s) := by rw [show 0 + 1 = xl s by omega]; exact QW _
   rw [eF] at hJ1; exact ⟨⟨_, rfl⟩, .inl ⟨_, rfl, hJ1⟩⟩
  ·gi_wp2
   go_wp2; refine bodyPost_ret (results_none rfl _ _ _) rfl ?_; exact ⟨⟨_, rfl⟩, .inr ⟨_, ⟨_, rfl⟩, hx1⟩⟩
 ·have q1 : ((s.pts.length : Int) == 1) = false := by simp; omega
  have q1' : (s.pts.length == 1) = false := by simp; omega
  have hc1 : ¬ c = 1 := by omega
  refine wp_region_lit ?_; refine zy 2 ?_
  refine zw (by first | rfl | simp [Region.wanted, yielded]) rfl Tryz.underlying26 rfl ?_; simp only [zo]; refine zy 1 ?_; refine wpList_nil ?_; go_upto_region 3 with fail
  refine wp_region_lit ?_; refine zy 3 ?_
  refine wpList_nil ?_; go_upto_region 4 with fail
  refine wp_region_lit ?_; refine zy 3 ?_
  refine zw (by first | rfl | simp [Region.wanted, yielded]) rfl Tryz.underlying26 rfl ?_; simp only [zo]; refine zy 1 ?_; refine wpList_nil ?_; replace hJ := HA.out.below HJ0.out B; have hsz0 : W0.heap.size < wn.heap.size := by have := f3.lt; omega
  have hbf : b < b_f3 := by have := KF.out; omega
  have hgf : g < b_f3 := by have := KF.out; omega
  clear B hf0; go_wp2; go_loopw [4, 6, 7, 8, 9, 34] (fun lv _ _ _ _ iv wr => ∃ (j k : Nat) (lf : Int), j + 1 ≤ s.pts.length ∧ k ≤ xl s ∧ iv = .int .i64 (j : Int) ∧ lv = .int .i64 lf ∧ Hid (lf = s.pha + k * s.spa - jq s.pts j) ∧ (0 ≤ lf ∧ lf ≤ 5300000) ∧ J (kw (xl s) k) wr ∧ W0.heap.size < wr.heap.size ∧ zK 43 wr b_f3 (j3.enc (jJ s.pts j)) ∧ zK 30 wr b (jE (.slice (some ⟨g, o, none⟩) s.pts.length c) s) ∧ zW j3 g o s.pts wr) (fun _ _ _ _ _ iv _ => (s.pts.length - intOf iv).toNat)
  case atStart => exact ⟨0, 0, s.pha, by omega, by omega, rfl, rfl, Lib.hid (by show s.pha = s.pha + ((0 : Nat) : Int) * s.spa - 0; omega), by omega, hJ, hsz0, f3, r1, pc⟩
  case round =>
   clear hJ hsz0 f3 r1 pc; obtain ⟨j, k, lf, hj, hk, rfl, rfl, HLF, hlf, hJ, hsz0, f3, r1, pc⟩ := hrel; by_cases hjl : j + 1 < s.pts.length
   ·have q2 : decide ((j : Int) < ((s.pts.length - 1 : Nat) : Int)) = true := decide_eq_true (by omega)
    have q2' : decide (j < s.pts.length - 1) = true := decide_eq_true (by omega); have hp1 := ju (l := s.pts) hjl; have A1 := Lib.hid (HV.out.pt (show j < s.pts.length by omega)); have A2 := Lib.hid (HV.out.pt hjl); have HPR := Lib.hid (show jq s.pts (j + 1) = jq s.pts j + yI (jJ s.pts j) (jJ s.pts (j + 1)) from rfl); have hLb := XR A1.out A2.out; have hLn := Qo (jJ s.pts j) (jJ s.pts (j + 1)); have HDK := Lib.hid (fun (k : Nat) h2 h3 => zeh (s := s) (k := k) (j := j) h1 (by omega) h2 h3); obtain ⟨L, hL⟩ : ∃ L, yI (jJ s.pts j) (jJ s.pts (j + 1)) = L := ⟨_, rfl⟩; rw [hL] at HPR HDK hLb hLn; obtain ⟨x1, hx1⟩ : ∃ x, jJ s.pts j = x := ⟨_, rfl⟩; obtain ⟨x2, hx2⟩ : ∃ x, jJ s.pts (j + 1) = x := ⟨_, rfl⟩; rw [hx1] at A1 f3 HDK hL; rw [hx2] at A2 hp1 HDK hL; have HX2 := Lib.hid hx2; have HL := Lib.hid hL; clear hx1 hx2 hL; obtain ⟨a1, a2, a3, a4, a5, a6⟩ := A1.out
    obtain ⟨c1, c2, c3, c4, c5, c6⟩ := A2.out; have B := Below.refl wr.heap.size wr; have hr1l := r1.lt; have hpcl := pc.lt; have hf3l := f3.lt; go_upto_region 5 with fail
    refine wp_region_lit ?_; refine zy 1 ?_; refine wpList_nil ?_; go_upto_region 6 with fail
    refine wp_region_lit ?_; refine j4 2 ?_; repeat (first | go_big_quiet_skip | (go_big_quiet_want; first | ((first | refine zn (t := 43) rfl _ _ _ rfl (fun w hw => (jX pc w hw).load Tryz.isAgg43 hp1) (by first | rfl | omega) ?_ | refine qB ?_ | refine qC ?_); simp only [zo]; go_big_quiet_on) | (go_big_quiet_op; go_big_quiet_on)))
    refine wpQuiet_nil ?_
    (refine zr (t := 43) rfl _ (km _ _ rfl) (zY B ?_); clear B; intro b_n6 wn zb zd n6 za zf zk B; (try have zh := r1.lt); (try replace r1 := r1.below (za.mono zb)); (try have zh := pc.lt); (try replace pc := pc.below (za.mono zb)); (try have zh := f3.lt); (try replace f3 := f3.below (za.mono zb)); simp only [zo])
    (refine zq (t := 43) rfl _ _ rfl _ rfl _ rfl n6 (by kernel_rfl) rfl (by simp [j3, Value.oneCell']) (qG B (by omega) ?_); clear n6 B; intro wn n6 ze zf zg B; (try replace r1 := r1.of_eq (ze.block _ r1.lt (by omega))); (try replace pc := pc.of_eq (ze.block _ pc.lt (by omega))); (try replace f3 := f3.of_eq (ze.block _ f3.lt (by omega))); simp only [zo])
    refine wpList_nil ?_; replace n6 : zK 43 _ b_n6 (j3.enc x2) := n6; have hnf : b_f3 < b_n6 := by omega
    go_upto_region 7 with fail
    refine wp_region_lit ?_; refine zy 2 ?_
    refine je (enters_of Tryz.func107 (by kernel_rfl) rfl) (c := YJ x1 x2 L _ A1.out A2.out HL.out) (h := ?_); rintro e wn ⟨rfl, za⟩; have zf := B.size; have zg := za.size; replace B := B.trans (za.mono B.size)
    (try replace r1 := r1.below za)
    (try replace pc := pc.below za)
    (try replace f3 := f3.below za)
    (try replace n6 := n6.below za)
    refine ⟨_, rfl, ?_⟩; simp only [zo]; refine zy 1 ?_; refine wpList_nil ?_; replace hJ := HA.out.below hJ B; have hsz1 : W0.heap.size < wn.heap.size := by have := B.size; omega
    clear B hr1l hpcl hf3l; go_wp2; go_loopw [4, 8, 9] (fun lv _ _ wr => ∃ (k : Nat) (lf : Int), k ≤ xl s ∧ lv = .int .i64 lf ∧ Hid (lf = s.pha + k * s.spa - jq s.pts j) ∧ (0 ≤ lf ∧ lf ≤ 5300000) ∧ J (kw (xl s) k) wr ∧ W0.heap.size < wr.heap.size ∧ zK 43 wr b_f3 (j3.enc x1) ∧ zK 43 wr b_n6 (j3.enc x2) ∧ zK 30 wr b (jE (.slice (some ⟨g, o, none⟩) s.pts.length c) s) ∧ zW j3 g o s.pts wr) (fun lv _ _ _ => (L - intOf lv).toNat)
    case atStart => exact ⟨k, lf, hk, rfl, HLF, hlf, hJ, hsz1, f3, n6, r1, pc⟩
    case round =>
     clear hJ hsz0 hsz1 f3 n6 r1 pc hlf HLF hk; obtain ⟨k, lf, hk, rfl, HLF, hlf, hJ, hsz0, f3, n6, r1, pc⟩ := hrel; have B := Below.refl wr.heap.size wr; have hr1l := r1.lt; have hpcl := pc.lt; have hf3l := f3.lt; have hn6l := n6.lt; by_cases zh : lf < L
     ·have q3 : decide (lf < L) = true := decide_eq_true zh
      have hkc : k < xl s := (Ws HV.out h1).2 (by
       have e1 := HLF.out; have e2 := HPR.out; have e3 : jq s.pts (j + 1) ≤ vc s.pts := J8 s.pts (by omega); omega)
      have HD := Lib.hid (show xg s k = zcj s x1 x2 lf L from by
       have e1 := HLF.out; have e2 := HPR.out; have := HDK.out k (by omega) (by omega); rw [this, ← e1])
      obtain ⟨m1, m2⟩ := XW (M := 5300000) (p := x2.x - x1.x) (q := lf) (by omega) (by omega); obtain ⟨m3, m4⟩ := XW (M := 5300000) (p := x2.y - x1.y) (q := lf) (by omega) (by omega); obtain ⟨m5, m6⟩ := XW (M := 5300000) (p := x2.p - x1.p) (q := lf) (by omega) (by omega); obtain ⟨b1, b2⟩ := vA (a := x1.x) (b := x2.x) hlf.1 zh ⟨a1, a2⟩ ⟨c1, c2⟩; obtain ⟨b3, b4⟩ := vA (a := x1.y) (b := x2.y) hlf.1 zh ⟨a3, a4⟩ ⟨c3, c4⟩; obtain ⟨b5, b6⟩ := vA (a := x1.p) (b := x2.p) hlf.1 zh ⟨a5, a6⟩ ⟨c5, c6⟩; obtain ⟨qx, hqx⟩ : ∃ q, qm ((x2.x - x1.x) * lf) L = q := ⟨_, rfl⟩; obtain ⟨qy, hqy⟩ : ∃ q, qm ((x2.y - x1.y) * lf) L = q := ⟨_, rfl⟩; obtain ⟨qp, hqp⟩ : ∃ q, qm ((x2.p - x1.p) * lf) L = q := ⟨_, rfl⟩; rw [hqx] at b1 b2; rw [hqy] at b3 b4; rw [hqp] at b5 b6; obtain ⟨R, hR⟩ : ∃ R, qm (s.rad * (x1.p + qp)) 255 = R := ⟨_, rfl⟩; have HE := Lib.hid (show vZ.enc (xg s k) = #[.int .i64 (x1.x + qx), .int .i64 (x1.y + qy), .int .i64 R] from by
       rw [HD.out]; show #[_, _, _] = _
       show #[Value.int .i64 (x1.x + qm ((x2.x - x1.x) * lf) L), .int .i64 (x1.y + qm ((x2.y - x1.y) * lf) L), .int .i64 (qm (s.rad * (x1.p + qm ((x2.p - x1.p) * lf) L)) 255)] = _
       rw [hqx, hqy, hqp, hR])
      have HQX := Lib.hid hqx; have HQY := Lib.hid hqy; have HQP := Lib.hid hqp; have HR := Lib.hid hR; have HN := Lib.hid (show lf + s.spa = s.pha + ((k + 1 : Nat) : Int) * s.spa - jq s.pts j from by rw [zc0, HLF.out]; omega)
      have hbd : lf + s.spa ≤ 5300000 := by
       have e1 := zfS HV.out (show k + 1 ≤ xl s by omega); have e2 := HN.out; have e3 := YtepelndbbhdofaaGreatDoor.u6 s.pts j; omega
      clear hqx hqy hqp hR; go_upto_region 8 with fail
      refine wp_region_lit ?_; refine zy 3 ?_; refine wpList_nil ?_; go_upto_region 10 with fail
      try have lx_r1 := r1.lt
      try have lx_pc := pc.lt
      try have lx_f3 := f3.lt
      try have lx_n6 := n6.lt
      refine zJ 13 [(10, zN ?v1_10)] (by kernel_rfl) (by kernel_rfl) (by kernel_rfl) ?_
      rotate_left 1
      simp only [jZ, Nat.reduceAdd]; refine kX 10 ?_
      refine zD (by rfl) (by first | rfl | simp [Region.wanted, yielded]) ?_ ?_
      ·intro wn za hE Kx hKx
       have zf := B.size; have zg := za.size; replace B := B.trans (za.mono B.size)
       (try replace r1 := r1.below za)
       (try replace pc := pc.below za)
       (try replace f3 := f3.below za)
       (try replace n6 := n6.below za)
       refine zP rfl (enters_of Tryz.func68 (by kernel_rfl) rfl) (by simp only [Act.eval, qI]; rfl) ?_
       refine (vf ((x2.x - x1.x) * lf) L qx wn (by omega) (by omega) (by omega) (by omega) HQX.out).mono ?_; rintro e wm ⟨rfl, zl⟩; refine ⟨_, rfl, ?_⟩; have hz := hKx () wm trivial zl
       dsimp only [zN] at hz
       exact hz
      rintro ⟨⟩
      dsimp only [zN]
      simp only [zo]; refine kX 2 ?_; refine qi ?_; intro wn za hE; have zf := B.size; have zg := za.size; replace B := B.trans (za.mono B.size)
      (try replace r1 := r1.below za)
      (try replace pc := pc.below za)
      (try replace f3 := f3.below za)
      (try replace n6 := n6.below za)
      clear hE; try simp only [List.drop_succ_cons, List.drop_zero]
      refine zL.normal ?_; go_upto_region 11 with fail
      try have lx_r1 := r1.lt
      try have lx_pc := pc.lt
      try have lx_f3 := f3.lt
      try have lx_n6 := n6.lt
      refine zJ 13 [(10, zN ?v2_10)] (by kernel_rfl) (by kernel_rfl) (by kernel_rfl) ?_
      rotate_left 1
      simp only [jZ, Nat.reduceAdd]; refine kX 10 ?_
      refine zD (by rfl) (by first | rfl | simp [Region.wanted, yielded]) ?_ ?_
      ·intro wn za hE Kx hKx
       have zf := B.size; have zg := za.size; replace B := B.trans (za.mono B.size)
       (try replace r1 := r1.below za)
       (try replace pc := pc.below za)
       (try replace f3 := f3.below za)
       (try replace n6 := n6.below za)
       refine zP rfl (enters_of Tryz.func68 (by kernel_rfl) rfl) (by simp only [Act.eval, qI]; rfl) ?_
       refine (vf ((x2.y - x1.y) * lf) L qy wn (by omega) (by omega) (by omega) (by omega) HQY.out).mono ?_; rintro e wm ⟨rfl, zl⟩; refine ⟨_, rfl, ?_⟩; have hz := hKx () wm trivial zl
       dsimp only [zN] at hz
       exact hz
      rintro ⟨⟩
      dsimp only [zN]
      simp only [zo]; refine kX 2 ?_; refine qi ?_; intro wn za hE; have zf := B.size; have zg := za.size; replace B := B.trans (za.mono B.size)
      (try replace r1 := r1.below za)
      (try replace pc := pc.below za)
      (try replace f3 := f3.below za)
      (try replace n6 := n6.below za)
      clear hE; try simp only [List.drop_succ_cons, List.drop_zero]
      refine zL.normal ?_; go_upto_region 12 with fail
      refine (wpIn_wide (n := n)).1 ?_; refine ue 17 (by kernel_rfl) (by kernel_rfl) (by kernel_rfl) ?_; simp only [jZ, Nat.reduceAdd]; repeat (first | go_big_quiet_skip | (go_big_quiet_want; first | (refine zn (t := 30) rfl _ _ _ rfl (fun w hw => zv (zB r1 w hw) Tryz.isAgg30 (by kernel_rfl)) (by rfl) ?_; simp only [zo]; go_big_quiet_on) | (refine zn (t := 3) rfl _ _ _ rfl (fun w hw => zu (zdv (zB f3 w hw))) (by rfl) ?_; simp only [zo]; go_big_quiet_on) | (refine zn (t := 3) rfl _ _ _ rfl (fun w hw => zu (zdv (zB n6 w hw))) (by rfl) ?_; simp only [zo]; go_big_quiet_on) | (go_big_quiet_op; first | go_big_quiet_on | go_big_quiet_call ((first | (go_at_call 68; exact zC (vf ((x2.p - x1.p) * lf) L qp _ (by omega) (by omega) (by omega) (by omega) HQP.out)) | (go_at_call 110; exact zC (ze9 _ s (x1.x + qx) (x1.y + qy) (x1.p + qp) R _ ⟨by omega, hr2⟩ ⟨b5, b6⟩ HR.out)))))))
      refine wpQuiet_nil ?_; intro wn za; have zf := B.size; have zg := za.size; replace B := B.trans (za.mono B.size); (try replace r1 := r1.below za); (try replace pc := pc.below za); (try replace f3 := f3.below za); (try replace n6 := n6.below za)
      replace hJ := HA.out.below hJ B; obtain ⟨fn, tmps, assign, body, hy, hRd⟩ := HY.out (kw (xl s) k) ⟨k, hkc⟩ _ hJ (by rw [wj hk]; exact hkc) (by have e1 := B.size; omega)
      try dsimp only at hy
      rw [HE.out] at hy; rw [← Zz hkc] at hRd; gi_wp2
      refine hRd.mono ?_; rintro e W1 (⟨rfl, hJ1, hkp⟩ | ⟨rfl, hx1⟩)
      ·replace r1 := r1.of_eq (hkp.low _ hb hb8 r1.lt)
       replace pc := pc.of_eq (hkp.low _ hg hg8 pc.lt); replace f3 := hkp.pts _ _ f3; replace n6 := hkp.pts _ _ n6; have hsz2 : W0.heap.size < W1.heap.size := by have := hkp.size; have := B.size; omega
       gi_wp2
       clear B hy hRd; have B := Below.refl W1.heap.size W1; go_upto_region 9 with fail
       refine wp_region_lit ?_; refine zy 5 ?_
       refine wpList_nil ?_; go_wp2; go_roundw
       case rel => exact ⟨k + 1, lf + s.spa, by omega, rfl, HN, by omega, hJ1, hsz2, f3, n6, r1, pc⟩
       case measure => simp [intOf]; omega
      ·gi_wp2
       go_wp2; refine bodyPost_ret (results_none rfl _ _ _) rfl ?_; exact ⟨⟨_, rfl⟩, .inr ⟨_, ⟨_, rfl⟩, hx1⟩⟩
     ·have q3 : decide (lf < L) = false := decide_eq_false zh
      have HN := Lib.hid (show lf - L = s.pha + k * s.spa - jq s.pts (j + 1) from by rw [HPR.out, HLF.out]; omega)
      go_upto_region 8 with fail
      refine wp_region_lit ?_; refine zy 3 ?_; refine wpList_nil ?_; go_upto_region 13 with fail
      refine wp_region_lit ?_; refine zy 4 ?_; refine wpList_nil ?_; go_upto_region 14 with fail
      refine wp_region_lit ?_; refine zy 1 ?_
      (refine zq (t := 43) rfl _ _ rfl _ rfl _ rfl f3 (by kernel_rfl) rfl (by simp [j3, Value.oneCell']) ?_; have f3o := f3; clear f3; intro wn ht ze zg; have zf := B.size; replace zg := Nat.le_of_eq zg.symm; replace hJ := HA.out.chg (t := 43) (cs := j3.enc x1) hJ (by rw [← KF.out]; exact f3o) rfl (by rw [← KF.out]; exact ze); (try replace r1 := r1.of_eq (ze.block _ r1.lt (by omega))); (try replace pc := pc.of_eq (ze.block _ pc.lt (by omega))); have f3 := ht; clear ht; simp only [zo])
      refine wpList_nil ?_; replace f3 : zK 43 _ b_f3 (j3.enc x2) := f3; rw [← HX2.out] at f3; have hsz2 : W0.heap.size < wn.heap.size := by omega
      go_upto_region 15 with fail
      refine wp_region_lit ?_; refine zy 2 ?_; refine wpList_nil ?_; go_wp2; go_roundw
      case rel => exact ⟨j + 1, k, lf - L, by omega, hk, by go_num, rfl, HN, by omega, hJ, hsz2, f3, r1, pc⟩
      case measure => simp [intOf]; omega
   ·have q2 : decide ((j : Int) < ((s.pts.length - 1 : Nat) : Int)) = false := decide_eq_false (by omega)
    have q2' : decide (j < s.pts.length - 1) = false := decide_eq_false (by omega); have hkc : k = xl s := by
     have e1 := HLF.out; have e2 : vc s.pts = jq s.pts j := by unfold vc; rw [show s.pts.length - 1 = j by omega]
     have e3 := Ws HV.out h1 (k := k); omega
    have B := Below.refl wr.heap.size wr; go_upto_region 5 with fail
    refine wp_region_lit ?_; refine zy 1 ?_; refine wpList_nil ?_; go_wp2; go_end0
    have eF : kw (xl s) k = List.finRange (xl s) := by rw [hkc]; exact QW _
    rw [eF] at hJ; exact ⟨⟨_, rfl⟩, .inl ⟨_, rfl, hJ⟩⟩
end Go.Proofs.YtepelndbbhdofaaGreatDoor
/- Contracts of AppendSeq, Collect at dabs; of Dabs and Area of package stroke. -/
namespace Go.Proofs.YtepelndbbhdofaaGreatDoor
open Go Go.RowKit Go.Shelf Pl
attribute [local go_sem] Oper.semAt_some
set_option linter.unusedVariables false
set_option linter.unusedSimpArgs false
set_option maxRecDepth 20000
section
variable {α : Type} {k : Nat} {T ST : TypeId} {E : Xq α k T ST} {ops : Array Oper} {rest : List Oper} {o : Oper} {a : Act} {w : World} {Q : Exit → Act → World → Prop}
/-- A slice appended to a row of the call's own: nothing else of old has turned. -/
theorem JD (hg : o.guard = none) (s x : Operand) (ho : o.op = .call { callee := .builtin .append, args := #[s, x], argTypes := #[ST, ST] }) (v u : Value) (hs : a.eval s = v) (hx : a.eval x = u) {B : Nat} {ls ks : List α} (hown : jb E B v ls w) (hu : xp E u ks w) (hlen : ls.length + ks.length ≤ 100000000) (hB : B ≤ w.heap.size)
  (h : ∀ v' w', jb E B v' (ls ++ ks) w' → w.grownBy w' v.ownBlock → wpList Tryz.prog ops Q rest (a.put o.dst v') w') : wpList Tryz.prog ops Q (o :: rest) a w := by
 obtain ⟨i, z, hi, hz, zf, hby, hzc⟩ := E.facts
 have hzs : z.cells.size = k := by rw [hzc, E.size]
 rcases hu with ⟨rfl, rfl⟩ | ⟨g, of, c, rfl, hc, sc⟩ | ⟨ad, c, rfl, rfl⟩
 ·refine wpList_append_own_none (P := Tryz.prog) hg s x ST ho B T i k E.und hi v ls.length (xW E ls) hs hown hx ?_
  exact h v w (by rw [List.append_nil]; exact hown) ⟨rfl, rfl, rfl, Nat.le_refl _, fun _ _ _ => rfl⟩
 ·refine wpList_append_own (P := Tryz.prog) w hg s x ST ho B T i z k E.bytes E.und hi hz zf hby hzs E.pos v ls.length (xW E ls) hs hown ⟨g, of, none⟩ ks.length c (xW E ks) hx (xE E ks) ?_ (Zd E ks) (by unfold maxLen; omega) ?_ hB ?_
  ·intro j u hu
   have hj : j < ks.length * k := by rw [← xE E]; exact (List.getElem?_eq_some_iff.1 hu).1
   have e : (⟨g, of, none⟩ : Addr).add j = ⟨g, of + j, none⟩ := by unfold Addr.add; split <;> simp_all
   rw [e]; have hk : 0 < ks.length := by
    rcases Nat.eq_zero_or_pos ks.length with h0 | h0
    ·rw [h0, Nat.zero_mul] at hj; omega
    ·exact h0
   exact (sc hk).row j u hu
  ·have := Nat.mul_le_mul hlen E.small
   omega
  ·intro v' w' h1 h2 h3
   refine h v' w' ?_ h2; unfold jb; rw [ZX, List.length_append]; exact h1
 ·refine wpList_append_own (P := Tryz.prog) w hg s x ST ho B T i z k E.bytes E.und hi hz zf hby hzs E.pos v ls.length (xW E ls) hs hown ad 0 c [] hx (by simp) ?_ (by simp) (by unfold maxLen; simp only [List.length_nil] at hlen; omega) ?_ hB ?_
  ·intro j u hu
   simp at hu
  ·have := Nat.mul_le_mul hlen E.small
   simp only [List.length_nil] at this; omega
  ·intro v' w' h1 h2 h3
   refine h v' w' ?_ h2; unfold jb; rw [List.append_nil]; rw [List.append_nil] at h1; exact h1
/-- The own row abides what turns other blocks. -/
theorem jb.grown {E : Xq α k T ST} {B : Nat} {v : Value} {ls : List α} {A A' : World} {row : Option Nat} (h : jb E B v ls A) (hg : A.grownBy A' row) (hr : ∀ r, row = some r → r < B ∨ ∃ o : Obj, A.heap[r]? = some o ∧ o.isCells = false) : jb E B v ls A' := by
 refine World.ownsRow.kept (row := row) h hg ?_
 cases hv : v.ownBlock with
 | none => exact .inl rfl
 | some b =>
  right
  intro e; have hb := World.ownsRow.lt h b hv; obtain ⟨_, h2⟩ := h; rcases h2 with ⟨rfl, _⟩ | ⟨g, cap, cur, rfl, _, hgc, _⟩
  ·cases hv
  ·have hgb : g = b := by simpa [Value.ownBlock] using hv
   subst hgb; rcases hr g e.symm with k | ⟨o, ho, hc⟩
   ·omega
   ·rw [hgc] at ho
    cases ho
    cases hc
theorem jb.block {E : Xq α k T ST} {B : Nat} {v : Value} {ls : List α} {A : World} (h : jb E B v ls A) {b : Nat} (hb : v.ownBlock = some b) : ∃ cs, zK T A b cs := by
 obtain ⟨_, h2⟩ := h
 rcases h2 with ⟨rfl, _⟩ | ⟨g, cap, cur, rfl, _, hgc, _⟩
 ·cases hb
 ·have hgb : g = b := by simpa [Value.ownBlock] using hb
  subst hgb; exact ⟨cur, hgc⟩
end
theorem zK.grown {t : TypeId} {A A' : World} {b : Nat} {cs : Array Value} {row : Option Nat} (h : zK t A b cs) (hg : A.grownBy A' row) (hr : row ≠ some b) : zK t A' b cs := (hg.block b h.lt (fun e => hr e.symm)).trans h
theorem Zo.grownT {n0 c : Nat} {W W' : World} {row : Option Nat} (hg : W.grownBy W' row) (hr : ∀ r, row = some r → n0 ≤ r ∧ ∃ t cs, zK t W r cs ∧ t ≠ 43) : Zo n0 c W W' :=
 ⟨hg.size, fun k hk _ hl => hg.block k hl (fun e => by have := (hr k e.symm).1; omega), fun k cs hk => hk.grown hg (fun e => by
  obtain ⟨_, t, ds, hd, ht⟩ := hr k e; have := (show W.heap[k]? = _ from hk).symm.trans hd
  injection this with this
  injection this with _ e' _
  exact ht e'.symm)⟩
theorem KeepsOthers.below {W W' : World} (h : Below W.heap.size W W') : KeepsOthers W W' := ⟨h.size, fun k o hk _ => (h.block k (Array.getElem?_eq_some_iff.1 hk).1).trans hk⟩
theorem QS (s : jd) : (List.finRange (xl s)).map (fun i => xg s i.val) = jR s := by
 unfold jR
 refine List.ext_getElem (by simp) fun i h1 h2 => ?_
 simp
theorem um {w : World} {b j : Nat} {v : Value} (h : w.cell? ⟨b, j, none⟩ = some v) : (Instr.loadAt 35 (.pointer (some ⟨b, j, none⟩))).run Tryz.prog w = .ok v w := by
 simp [go_sem, h]
/-- A slice stored into its own cell. -/
theorem Vf {v : Value} {ops : Array Oper} {rest : List Oper} {o : Oper} {a : Act} {w : World} {Q : Exit → Act → World → Prop} (hg : o.guard = none) (x y : Operand) (ho : o.op = .store 35 x y) (b : Nat) (hx : a.eval x = .pointer (some ⟨b, 0, none⟩)) (a' : Option Addr) (n' c' : Nat) (hy : a.eval y = .slice a' n' c') (ht : zK 35 w b #[v])
  (h : ∀ w', zK 35 w' b #[.slice a' n' c'] → qV b w w' → w'.heap.size = w.heap.size → wpList Tryz.prog ops Q rest (a.put o.dst undef) w') : wpList Tryz.prog ops Q (o :: rest) a w := by
 have c0 := ht.cell 0 rfl
 have f0 := ht.frozen 0
 refine qk hg x y ho (w.setCell ⟨b, 0, none⟩ (.slice a' n' c')) ?_ (h _ ?_ ((qV.refl b w).setCell _) (by simp only [World.size_setCell]))
 ·rw [hx, hy]
  simp [go_sem, c0, f0]
 ·exact heap_setCell_same w b 0 #[v] _ _ ht
set_option maxHeartbeats 4000000 in
theorem Yu (s : jd) (hv : JI s) (g o c b : Nat) (w : World) (r1 : zK 30 w b (jE (.slice (some ⟨g, o, none⟩) s.pts.length c) s)) (hcap : s.pts.length ≤ c) (pc : zW j3 g o s.pts w) : Calls Tryz.prog 108 #[.slice none 0 0, .func (.func 109) #[] #[.pointer (some ⟨b, 0, none⟩)]] w fun e w' => ∃ a cp, e = .returned (.slice a (jR s).length cp) ∧ jb vZ w.heap.size (.slice a (jR s).length cp) (jR s) w' ∧ Below w.heap.size w w' := by
 have B := Below.refl w.heap.size w
 have HV := Lib.hid hv
 have ze := Vz hv
 have hb := r1.lt
 have hg0 := pc.lt
 clear hv
 refine (callsIn_wide (n := 3)).1 ?_
 refine callsIn_of_wp_marks Tryz.func108 rfl trivial ?_ rfl
 simp only [Tryz.ntmps108, List.size_toArray, List.length_cons, List.length_nil, Nat.reduceAdd, Nat.reduceSub, Array.replicate_succ, Array.replicate_zero, List.push_toArray, List.append_toArray, List.nil_append, List.cons_append]
 refine wpIn_wide.2 ?_
 go_upto_region 0 with fail
 refine wp_region_lit ?_
 (refine Vb (t := 35) rfl _ rfl (.slice none 0 0) rfl (by simp [Value.cells]) (zY B ?_); clear B; intro b_r2 wn zb zd r2 za zf zk B; (try have zh := r1.lt); (try replace r1 := r1.below (za.mono zb)); (try have zh := pc.lt); (try replace pc := pc.below (za.mono zb)); simp only [zo])
 refine zy 1 ?_
 refine wpList_nil ?_
 have k2 : w.heap.size ≤ b_r2 := by omega
 have k3 := r2.lt
 go_upto_region 1 with fail
 refine wp_region_lit ?_
 refine zy 1 ?_
 refine wpList_nil ?_
 obtain ⟨w1, hw1⟩ : ∃ w1, w1 = wn := ⟨_, rfl⟩
 rw [← hw1] at B r1 pc r2 k3 ⊢
 clear hw1
 obtain ⟨b0, hb0⟩ : ∃ b0, b0 = w1.heap.size + 3 := ⟨_, rfl⟩
 have HB0 := Lib.hid hb0
 clear hb0
 go_wp2
 refine (wpIn_wide (n := 3)).1 ?_
 refine ZW (F := Fence.wide) rfl (by omega) (gf := 109) (lb := #[.pointer (some ⟨b, 0, none⟩)]) rfl trivial (enters_of Tryz.func109 (by kernel_rfl) rfl) (JA s HV.out g o c b b_r2 w.heap.size _ (by omega) _ r1 hcap pc hb (by omega) hg0 (by omega) B.size) (fun h k => Zo.trans h k) (fun W l o o' hl ho hc _ => Zo.putObj W l o o' (by omega) ho hc) (fun A B h => Zo.below h) (Below.refl _ _) (fun _ => rfl)
  (fun pre W => ∃ (ad : Option Addr) (cp : Nat), zK 35 W b_r2 #[.slice ad pre.length cp] ∧ jb vZ b0 (.slice ad pre.length cp) (pre.map fun i => xg s i.val) W ∧ Below w.heap.size w W)
  (fun pre W W' row hI hg hr => ?own)
  ⟨none, 0, r2, jb.nil _ _, B⟩
  (fun x a' W => ∃ b5 : Nat, a'.defers = [] ∧ a'.tmps.size = 13 ∧ a'.tmps.getD 2 undef = .pointer (some ⟨b_r2, 0, none⟩) ∧ a'.tmps.getD 5 undef = .pointer (some ⟨b5, 0, none⟩) ∧ zK 45 W b5 (vZ.enc (xg s x.val)) ∧ b_r2 < b5 ∧ b0 ≤ W.heap.size)
  (fun x a' W W' row hA hg hr => ?own2) ?assign ?body ?done
 case own =>
  obtain ⟨ad, cp, h1, h2, h3⟩ := hI; have hsz1 := B.size; have hb0 := HB0.out; refine ⟨ad, cp, h1.grown hg (fun e => ?_), h2.grown hg (fun r e => ?_), wL h3 h3.size hg (fun r e => Nat.le_trans hsz1 (hr r e).1)⟩
  ·have := (hr _ e).1
   rcases (hr _ e).2 with ⟨ob, ho, hc⟩ | ⟨h5, _⟩
   ·rw [show W.heap[b_r2]? = _ from h1] at ho
    cases ho
    cases hc
   ·omega
  ·rcases (hr r e).2 with h5 | ⟨h5, _⟩
   ·exact .inr h5
   ·exact .inl (by omega)
 case own2 =>
  obtain ⟨b5, e1, e2, e3, e4, h1, h2, h3⟩ := hA; exact ⟨b5, e1, e2, e3, e4, h1.own hg (fun r e => (hr r e).2), h2, Nat.le_trans h3 hg.size⟩
 case assign =>
  intro l pre x W K ⟨_, _, hl8, _⟩ hbig hK; have hb0 := HB0.out; have B := Below.refl W.heap.size W; have hl := hl8.lt; obtain ⟨⟨X, Y, R⟩, hxy⟩ : ∃ p, xg s x.val = p := ⟨_, rfl⟩; rw [hxy] at hK; rw [hxy]
  dsimp only
  refine Yr ?_; simp only [List.setIfInBounds_toArray, List.set_cons_succ, List.set_cons_zero]; refine zE (by kernel_rfl) ?_
  (refine zr (t := 45) rfl _ (kl _ _ rfl) (zY B ?_); clear B; intro b_d5 wn zb zd d5 za zf zk B; simp only [zo])
  (refine zq (t := 45) rfl _ _ rfl _ rfl _ rfl d5 (by kernel_rfl) rfl (by simp [vZ, Value.oneCell']) (qG B (by omega) ?_); clear d5 B; intro wn d5 ze zf zg B; simp only [zo])
  refine wpList_nil ?_; refine qw.at ?_; refine hK _ _ B ⟨_, rfl, rfl, rfl, rfl, d5, by omega, by have := B.size; omega⟩
 case body =>
  rintro l pre x W ⟨tm, df⟩ ⟨ad, cp, r2, od, BW⟩ ⟨b5, e1, e2, e3, e4, d5, k10, kb0⟩ hpre; obtain ⟨U, hU, hUi⟩ := Vv tm 13 e2; rw [← hUi] at e3 e4; have eL : ((List.range 13).map U).toArray = #[U 0, U 1, U 2, U 3, U 4, U 5, U 6, U 7, U 8, U 9, U 10, U 11, U 12] := rfl; rw [eL] at hU; rw [e3, e4] at hU; subst hU; have e1 : df = [] := e1; subst e1; clear e2 e3 e4 hUi eL; have hb0 := HB0.out; have hpl : (pre.map fun i => xg s i.val).length = pre.length := List.length_map _; have B := Below.refl W.heap.size W; have R2 := Lib.hid r2; have hws := BW.size; have r2lt := r2.lt; have d5lt := d5.lt; clear hb0; gi_upto_region 3 with fail
  refine zE (by kernel_rfl) ?_; refine j4 2 ?_
  repeat (first | go_big_quiet_skip | (go_big_quiet_want; first | ((first | refine zn (t := 35) rfl _ _ _ rfl (fun w hw => um ((zB r2 w hw).cellL 0 rfl)) (by rfl) ?_ | refine qB ?_ | refine qC ?_); simp only [zo]; go_big_quiet_on) | (go_big_quiet_op; go_big_quiet_on)))
  refine wpQuiet_nil ?_
  (refine xI (E := vZ) rfl _ rfl (xg s x.val) rfl (by omega) (zY B ?_); clear B; intro b_t10 wn zb zd t10 za zf zk B; replace od := od.below (za.mono zb); (try have zh := r2.lt); (try replace r2 := r2.below (za.mono zb)); (try have zh := d5.lt); simp only [zo])
  (at_builtin; refine JD rfl _ _ rfl _ _ rfl rfl od (xp.one t10) (by rw [hpl]; simp only [List.length_cons, List.length_nil]; omega) (by omega) ?_; intro v_od wm od2 hgr; simp only [zo])
  have K1 : Zo w.heap.size b_r2 W wn := Zo.below B; have O1 : KeepsOthers W wn := KeepsOthers.below B; have hown : ∀ r, (Value.slice ad pre.length cp).ownBlock = some r → w.heap.size ≤ r ∧ ∃ t cs, zK t wn r cs ∧ t ≠ 43 ∧ r ≠ b_r2 := fun r e => by
   have h1 := (World.ownsRow.lt od r e); obtain ⟨cs, hcs⟩ := od.block e; have hbb := HB0.out; exact ⟨by omega, _, cs, hcs, by decide, by omega⟩
  have K2 := K1.trans (Zo.grownT (c := b_r2) hgr (fun r e => by obtain ⟨h1, t, cs, h2, h3, _⟩ := hown r e; exact ⟨h1, t, cs, h2, h3⟩))
  have O2 := O1.trans (KeepsOthers.of_grownBy hgr (fun j o e ho => by
   obtain ⟨_, t, cs, h2, _⟩ := hown j e; rw [show wn.heap[j]? = _ from h2] at ho; cases ho
   rfl))
  have r2m := r2.grown hgr (fun e => by obtain ⟨_, _, _, _, _, h4⟩ := hown _ e; exact h4 rfl)
  have BW2 := (BW.trans (B.mono hws)).grown hgr (by have := B.size; omega) (fun k e => (hown k e).1)
  have hlen2 : ((pre ++ [x]).map fun i => xg s i.val) = (pre.map fun i => xg s i.val) ++ [xg s x.val] := by rw [List.map_append]; rfl
  rw [← hlen2] at od2; obtain ⟨a_od, c_od, hv, hco⟩ := od2.len; rw [List.length_map] at hv; subst hv; refine Vf rfl _ _ rfl _ rfl _ _ _ rfl r2m ?_; intro wz r2z hcz hsz2; refine wpList_nil ?_; refine qw.at ?_; try dsimp only
  have hb1 : b_r2 < b0 := by have := HB0.out; omega
  refine ⟨O2.trans (KeepsOthers.chgB hcz r2m), K2.trans (Zo.exc (Nat.le_of_eq hsz2.symm) (fun k h1 h2 => hcz.block k h1 h2) r2m (by decide)), a_od, c_od, r2z, od2.chg hcz hb1, ?_⟩; exact qV.below BW2 hcz (by omega) BW2.size
 case done =>
  have hszB := B.size; rintro D xs W hD rfl ⟨ad, cp, r2, od, BW⟩ hDD; have kd : yU W D := hDD; rw [QS, List.length_finRange] at od; rw [List.length_finRange] at r2; have rs := od.rs; have hwD : w.heap.size ≤ D := by omega
  have B := BW; go_upto_region 4 with fail
  refine wp_region_lit ?_; refine j4 2 ?_; repeat (first | go_big_quiet_skip | (go_big_quiet_want; first | ((first | refine zn (t := 35) rfl _ _ _ rfl (fun w hw => um ((zB r2 w hw).cellL 0 rfl)) (by rfl) ?_ | refine qB ?_ | refine qC ?_); simp only [zo]; go_big_quiet_on) | (go_big_quiet_op; go_big_quiet_on)))
  refine wpQuiet_nil ?_; refine wpList_nil ?_; go_wp2; refine ⟨by simp, .inl ⟨_, _, rfl, run_takeDeferred kd, ?_⟩⟩; have BF := B.trans (belowK_b (w := w) (Nat.le_refl _) W D _ (.deferred none) hwD kd rfl rfl); refine ⟨.slice ad (xl s) cp, by simp [results, Tryz.results108, go_sem]; try rfl, ?_⟩
  rw [JY]; exact ⟨ad, cp, rfl, (od.grown (grownBy_putObj' _ _ _) (fun r e => by cases e; exact .inr ⟨_, kd, rfl⟩)).mono (by have := HB0.out; omega), BF⟩
end Go.Proofs.YtepelndbbhdofaaGreatDoor
/- Contracts of Collect at dabs; of Dabs and Area of package stroke. -/
namespace Go.Proofs.YtepelndbbhdofaaGreatDoor
open Go.RowKit Go.Shelf Pl
set_option linter.unusedVariables false
set_option linter.unusedSimpArgs false
set_option maxRecDepth 20000
theorem Yx (s : jd) (hv : JI s) (g o c b : Nat) (w : World) (r1 : zK 30 w b (jE (.slice (some ⟨g, o, none⟩) s.pts.length c) s)) (hcap : s.pts.length ≤ c) (pc : zW j3 g o s.pts w) : Calls Tryz.prog 57 #[.func (.func 109) #[] #[.pointer (some ⟨b, 0, none⟩)]] w fun e w' => ∃ a cp, e = .returned (.slice a (jR s).length cp) ∧ jb vZ w.heap.size (.slice a (jR s).length cp) (jR s) w' ∧ Below w.heap.size w w' := by
 have B := Below.refl w.heap.size w
 go_enter Tryz.func57, Tryz.ntmps57
 go_upto_region 1 with fail
 refine wp_region_lit ?_
 refine zy 1 ?_
 refine je (enters_of Tryz.func108 (by kernel_rfl) rfl) (c := Yu s hv g o c b _ r1 hcap pc) (h := ?_)
 rintro e wn ⟨a5, c5, rfl, od5, za⟩
 have zf := B.size
 have zg := za.size
 replace B := B.trans (za.mono B.size)
 refine ⟨_, rfl, ?_⟩
 simp only [zo]
 refine zy 1 ?_
 refine wpList_nil ?_
 go_wp2
 go_ret
 exact ⟨_, _, rfl, od5, B⟩
set_option maxHeartbeats 1000000 in
theorem QA (v : Value) (s : jd) (L : List Db) (w : World) (rs : xp j3 v s.pts w) (hn : s.pts.length ≤ 17592186044416) (e : y9 s = L) : Calls Tryz.prog 19 #[.agg (jE v s)] w fun e w' => ∃ a cp, e = .returned (.slice a L.length cp) ∧ jb vZ w.heap.size (.slice a L.length cp) L w' ∧ Below w.heap.size w w' := by
 have B := Below.refl w.heap.size w
 obtain ⟨a, c, rfl, hc⟩ := rs.len
 cases hv : j2 s with
 | false =>
  obtain rfl : L = [] := by rw [← e]; unfold y9; rw [hv]; rfl
  have HV := Lib.hid hv; clear hv e; go_enter Tryz.func19, Tryz.ntmps19
  go_upto_region 0 with fail
  refine wp_region_lit ?_
  (refine zt (t := 30) rfl _ rfl _ rfl (zY B ?_); clear B; intro b_r1 wn zb zd r1 za zf zk B; (try have zh := rs.lt); (try replace rs := rs.below (za.mono zb)); simp only [zo])
  refine zy 1 ?_; refine wpList_nil ?_; go_upto_region 1 with fail
  refine wp_region_lit ?_; refine zy 1 ?_
  refine je (enters_of Tryz.func16 (by kernel_rfl) rfl) (c := xM _ s false _ rs hn HV.out) (h := ?_); rintro e wn ⟨rfl, za⟩; have zf := B.size; have zg := za.size; replace B := B.trans (za.mono B.size)
  (try replace r1 := r1.below za)
  (try replace rs := rs.below za)
  refine ⟨_, rfl, ?_⟩; simp only [zo]; refine zy 1 ?_; refine wpList_nil ?_; go_upto_region 2 with fail
  refine wp_region_lit ?_; refine zy 1 ?_; refine wpList_nil ?_; go_wp2; go_ret; exact ⟨_, _, rfl, jb.nil _ _, B⟩
 | true =>
  have hL : jR s = L := by rw [← e]; unfold y9; rw [hv]; rfl
  have HL := Lib.hid hL; have HVS := Lib.hid ((xk s).1 hv); have HV := Lib.hid hv; obtain ⟨g, o, rfl, pc⟩ := rs.at (by have := HVS.out.l1; omega)
  have hw0 := Nat.le_refl w.heap.size; clear hv e hL; go_enter Tryz.func19, Tryz.ntmps19
  go_upto_region 0 with fail
  refine wp_region_lit ?_
  (refine zt (t := 30) rfl _ rfl _ rfl (zY B ?_); clear B; intro b_r1 wn zb zd r1 za zf zk B; (try have zh := r1.lt); (try replace r1 := r1.below (za.mono zb)); (try have zh := rs.lt); (try replace rs := rs.below (za.mono zb)); (try have zh := pc.lt); (try replace pc := pc.below (za.mono zb)); simp only [zo])
  refine zy 1 ?_; refine wpList_nil ?_; go_upto_region 1 with fail
  refine wp_region_lit ?_; refine zy 1 ?_
  refine je (enters_of Tryz.func16 (by kernel_rfl) rfl) (c := xM _ s true _ rs hn HV.out) (h := ?_); rintro e wn ⟨rfl, za⟩; have zf := B.size; have zg := za.size; replace B := B.trans (za.mono B.size)
  (try replace r1 := r1.below za)
  (try replace pc := pc.below za)
  refine ⟨_, rfl, ?_⟩; simp only [zo]; refine zy 1 ?_; refine wpList_nil ?_; go_upto_region 3 with fail
  refine wp_region_lit ?_; refine zy 1 ?_
  refine je (enters_of Tryz.func58 (by kernel_rfl) rfl) (c := zb3 _ s _) (h := ?_); rintro e wn ⟨bw, rfl, hbw, r9, za⟩; have zf := B.size; have zg := za.size; replace B := B.trans (za.mono B.size)
  (try replace pc := pc.below za)
  (try replace r9 := r9.below za)
  refine ⟨_, rfl, ?_⟩; simp only [zo]; refine je (enters_of Tryz.func57 (by kernel_rfl) rfl) (c := Yx s HVS.out g o c bw _ r9 hc pc) (h := ?_); rintro e wn ⟨a5, c5, rfl, od5, za⟩; have zf := B.size; have zg := za.size; replace B := B.trans (za.mono B.size); replace od5 := od5.mono (show w.heap.size ≤ _ from by omega); refine ⟨_, rfl, ?_⟩; simp only [zo]; refine zy 1 ?_; refine wpList_nil ?_; rw [HL.out] at *; go_wp2; go_ret; exact ⟨_, _, rfl, od5, B⟩
/-! ### The variable 'limits' -/
def xU (w : World) : Prop := 0 < w.heap.size ∧ ∀ j, j < 4 → w.cell? ⟨0, j, none⟩ = (jV XS)[j]?
section
variable {w w' : World}
theorem xU.lt (h : xU w) : 0 < w.heap.size := h.1
theorem xU.of_eq (h : xU w) (e : w'.heap[0]? = w.heap[0]?) : xU w' := by
 refine ⟨?_, fun j hj => ?_⟩
 ·have := h.1
  rcases Nat.lt_or_ge 0 w'.heap.size with k | k
  ·exact k
  ·rw [Array.getElem?_eq_none k, Array.getElem?_eq_getElem this] at e
   cases e
 ·rw [World.cell?_of_block (w := w) e]
  exact h.2 j hj
theorem xU.below (h : xU w) (hb : Below w.heap.size w w') : xU w' := h.of_eq (hb.block _ h.lt)
theorem zcV (h : xU w) : ∀ w', (∃ u, w' = ov w u) → xU w' := by
 rintro w' ⟨u, rfl⟩
 exact h.below (qS w u)
theorem Zh (h : xU w) : (Instr.loadAt 38 (.pointer (some ⟨0, 0, none⟩))).run Tryz.prog w = .ok (.agg (jV XS)) w :=
 xF Tryz.isAgg38 (by kernel_rfl) (fun j hj => by rw [Nat.zero_add]; exact h.2 j hj)
end
theorem zau (l : List Db) {k : Nat} {d : Db} (h : l[k]? = some d) : ZN (l.take (k + 1)) = if 0 < d.r then j0 (ZN (l.take k)) (kn d) else ZN (l.take k) := by
 unfold ZN
 rw [List.take_add_one, h, List.foldl_append]
 rfl
set_option maxHeartbeats 4000000 in
theorem Yv (v : Value) (s : jd) (q : Rc) (w : World) (lm : xU w) (rs : xp j3 v s.pts w) (hn : s.pts.length ≤ 17592186044416) (e : uQ s = q) : Calls Tryz.prog 21 #[.agg (jE v s)] w fun e w' => e = .returned (.agg (jV q)) ∧ Below w.heap.size w w' := by
 have B := Below.refl w.heap.size w
 have hlm := lm.lt
 have HL := Lib.hid (zaz s)
 have HOK := Lib.hid (zcl s)
 obtain ⟨L, hL⟩ : ∃ L, y9 s = L := ⟨_, rfl⟩
 have HE := Lib.hid (show yf (ZN L) XS = q from by rw [← e, ← hL]; rfl)
 have HLS := Lib.hid hL
 rw [hL] at HL HOK
 have hLn := HL.out
 clear e hL
 go_enter Tryz.func21, Tryz.ntmps21
 go_upto_region 0 with fail
 refine wp_region_lit ?_
 (refine zt (t := 30) rfl _ rfl _ rfl (zY B ?_); clear B; intro b_r1 wn zb zd r1 za zf zk B; (try have zh := lm.lt); (try replace lm := lm.below (za.mono zb)); (try have zh := rs.lt); (try replace rs := rs.below (za.mono zb)); simp only [zo])
 (refine zr (t := 38) rfl _ (zZ _ _ rfl) (zY B ?_); clear B; intro b_r2 wn zb zd r2 za zf zk B; (try have zh := r1.lt); (try replace r1 := r1.below (za.mono zb)); (try have zh := lm.lt); (try replace lm := lm.below (za.mono zb)); (try have zh := rs.lt); (try replace rs := rs.below (za.mono zb)); simp only [zo])
 refine wpList_nil ?_
 go_upto_region 1 with fail
 refine wp_region_lit ?_
 (refine zr (t := 38) rfl _ (zZ _ _ rfl) (zY B ?_); clear B; intro b_r3 wn zb zd r3 za zf zk B; (try have zh := r1.lt); (try replace r1 := r1.below (za.mono zb)); (try have zh := r2.lt); (try replace r2 := r2.below (za.mono zb)); (try have zh := lm.lt); (try replace lm := lm.below (za.mono zb)); (try have zh := rs.lt); (try replace rs := rs.below (za.mono zb)); simp only [zo])
 refine wpList_nil ?_
 have k1 : b_r2 < b_r3 := by have := r2.lt; omega
 have k2 : w.heap.size ≤ b_r2 := by omega
 obtain ⟨b0, hb0⟩ : ∃ b0, b0 = wn.heap.size := ⟨_, rfl⟩
 have k3 : b_r3 < b0 := by have := r3.lt; omega
 have HB0 := Lib.hid hb0
 clear hb0
 go_upto_region 2 with fail
 refine wp_region_lit ?_
 refine zy 1 ?_
 refine je (enters_of Tryz.func19 (by kernel_rfl) rfl) (c := QA _ s L _ rs hn HLS.out) (h := ?_)
 rintro e wn ⟨ad, cd, rfl, od, za⟩
 have zf := B.size
 have zg := za.size
 replace B := B.trans (za.mono B.size)
 (try replace r1 := r1.below za)
 (try replace r2 := r2.below za)
 (try replace r3 := r3.below za)
 (try replace lm := lm.below za)
 (try replace rs := rs.below za)
 rw [← HB0.out] at od
 refine ⟨_, rfl, ?_⟩
 simp only [zo]
 refine zw (by first | rfl | simp [Region.wanted, yielded]) rfl Tryz.underlying35 rfl ?_
 simp only [zo]
 refine zy 1 ?_
 refine wpList_nil ?_
 have k4 : b0 ≤ wn.heap.size := by have := HB0.out; omega
 clear rs r1
 go_wp2
 go_loopw [5, 9] (fun _ iv wr => ∃ (k : Nat) (A : Rc), k ≤ L.length ∧ iv = .int .i64 (k : Int) ∧ Hid (ZN (L.take k) = A) ∧ Below w.heap.size w wr ∧ b0 ≤ wr.heap.size ∧ xU wr ∧ zK 38 wr b_r2 #[.int .i64 0, .int .i64 0, .int .i64 0, .int .i64 0] ∧ zK 38 wr b_r3 (jV A) ∧ jb vZ b0 (.slice ad L.length cd) L wr) (fun _ iv _ => (L.length - intOf iv).toNat)
 case atStart => exact ⟨0, Rc.zero, by omega, rfl, Lib.hid rfl, B, k4, lm, r2, r3, od⟩
 case round =>
  clear B k4 lm r2 r3 od; obtain ⟨k, A, hk, rfl, HA, B, k4, lm, r2, r3, od⟩ := hrel; by_cases hkl : k < L.length
  ·have q1 : decide ((k : Int) < (L.length : Int)) = true := decide_eq_true (by omega)
   have q2 : decide (k < L.length) = true := decide_eq_true hkl; obtain ⟨g, o, rfl, pc⟩ := od.rs.at (by omega); have hp := QQ hkl; have OKD := Lib.hid (HOK.out _ (List.mem_of_getElem? hp)); have HST := Lib.hid (zau L hp); rw [HA.out] at HST
   generalize hx1 : zcg L k = x1 at *
   clear hx1; obtain ⟨o1, o2, o3, o4, o5, o6⟩ := OKD.out; go_upto_region 3 with fail
   refine wp_region_lit ?_; refine zy 1 ?_; refine wpList_nil ?_; have BW := B; have HOD := Lib.hid od; have hlo := od.rs; have B := Below.refl wr.heap.size wr; have hpcl := pc.lt; have hr2l := r2.lt; have hr3l := r3.lt; have hlml := lm.lt; clear hlo; go_upto_region 4 with fail
   refine wp_region_lit ?_; refine j4 2 ?_; repeat (first | go_big_quiet_skip | (go_big_quiet_want; first | ((first | refine zn (t := 45) rfl _ _ _ rfl (fun w hw => (jX pc w hw).load Tryz.isAgg45 hp) (by first | rfl | omega) ?_ | refine qB ?_ | refine qC ?_); simp only [zo]; go_big_quiet_on) | (go_big_quiet_op; go_big_quiet_on)))
   refine wpQuiet_nil ?_
   (refine zr (t := 45) rfl _ (kl _ _ rfl) (zY B ?_); clear B; intro b_d5 wn zb zd d5 za zf zk B; (try have zh := r2.lt); (try replace r2 := r2.below (za.mono zb)); (try have zh := r3.lt); (try replace r3 := r3.below (za.mono zb)); (try have zh := lm.lt); (try replace lm := lm.below (za.mono zb)); (try have zh := pc.lt); simp only [zo])
   (refine zq (t := 45) rfl _ _ rfl _ rfl _ rfl d5 (by kernel_rfl) rfl (by simp [jV, vZ, Value.oneCell']) (qG B (by omega) ?_); clear d5 B; intro wn d5 ze zf zg B; (try replace r2 := r2.of_eq (ze.block _ r2.lt (by omega))); (try replace r3 := r3.of_eq (ze.block _ r3.lt (by omega))); (try replace lm := lm.of_eq (ze.block _ lm.lt (by omega))); simp only [zo])
   refine wpList_nil ?_; replace d5 : zK 45 _ b_d5 (vZ.enc x1) := d5; replace od := HOD.out.below B; have B0 := BW.trans (B.mono BW.size); clear B; have B := B0; clear B0 BW; have k5 : b0 ≤ wn.heap.size := by omega
   by_cases hr : 0 < x1.r
   ·have q3 : decide (0 < x1.r) = true := decide_eq_true hr
    rw [if_pos hr] at HST; obtain ⟨qs, hqs⟩ : ∃ q, kn x1 = q := ⟨_, rfl⟩; obtain ⟨A2, hA2⟩ : ∃ q, j0 A qs = q := ⟨_, rfl⟩; rw [hqs, hA2] at HST; have HQS := Lib.hid hqs; have HA2 := Lib.hid hA2; clear hqs hA2; go_upto_region 5 with fail
    refine wp_region_lit ?_; refine zy 3 ?_
    refine wpList_nil ?_; go_upto_region 6 with fail
    try have lx_r1 := r1.lt
    try have lx_r2 := r2.lt
    try have lx_r3 := r3.lt
    try have lx_lm := lm.lt
    try have lx_d5 := d5.lt
    try have lx_od := od.lt
    refine zJ 4 [(2, zN ?v1_2), (3, zN ?v1_3)] (by kernel_rfl) (by kernel_rfl) (by kernel_rfl) ?_
    rotate_left 2
    simp only [jZ, Nat.reduceAdd]; refine kX 2 ?_
    refine zD (by rfl) (by first | rfl | simp [Region.wanted, yielded]) ?_ ?_
    ·intro wn za hE Kx hKx
     have zf := B.size; have zg := za.size; replace B := B.trans (za.mono B.size)
     (try replace r2 := r2.below za)
     (try replace r3 := r3.below za)
     (try replace lm := lm.below za)
     (try replace d5 := d5.below za)
     (try replace od := od.below za)
     refine zP rfl (enters_of Tryz.func62 (by kernel_rfl) rfl) (by simp only [Act.eval, qI]; rfl) ?_
     refine (yW x1 qs wn (by omega) (by omega) (by omega) HQS.out).mono ?_; rintro e wm ⟨rfl, zl⟩; refine ⟨_, rfl, ?_⟩; have hz := hKx () wm trivial zl
     dsimp only [zN] at hz
     exact hz
    rintro ⟨⟩
    dsimp only [zN]
    simp only [zo]; refine zD (by rfl) (by first | rfl | simp [Region.wanted, yielded]) ?_ ?_
    ·intro wn za hE Kx hKx
     have zf := B.size; have zg := za.size; replace B := B.trans (za.mono B.size)
     (try replace r2 := r2.below za)
     (try replace r3 := r3.below za)
     (try replace lm := lm.below za)
     (try replace d5 := d5.below za)
     (try replace od := od.below za)
     refine zP rfl (enters_of Tryz.func61 (by kernel_rfl) rfl) (by simp only [Act.eval, qI]; rfl) ?_
     refine (zbR A qs A2 wn HA2.out).mono ?_; rintro e wm ⟨rfl, zl⟩; refine ⟨_, rfl, ?_⟩; have hz := hKx () wm trivial zl
     dsimp only [zN] at hz
     exact hz
    rintro ⟨⟩
    dsimp only [zN]
    simp only [zo]; refine qi ?_; intro wn za hE; have zf := B.size; have zg := za.size; replace B := B.trans (za.mono B.size)
    (try replace r2 := r2.below za)
    (try replace r3 := r3.below za)
    (try replace lm := lm.below za)
    (try replace d5 := d5.below za)
    (try replace od := od.below za)
    clear hE; try simp only [List.drop_succ_cons, List.drop_zero]
    go_wp2_with (first | (refine zq (t := 38) rfl _ _ rfl _ rfl _ rfl r3 (by kernel_rfl) rfl (by simp [jV, vZ, Value.oneCell']) (qG B (by omega) ?_); clear r3 B; intro wn r3 ze zf zg B; replace od := od.chg ze (by omega); (try replace r2 := r2.of_eq (ze.block _ r2.lt (by omega))); (try replace lm := lm.of_eq (ze.block _ lm.lt (by omega))); simp only [zo]) | fail)
    refine zL.normal ?_; replace r3 : zK 38 _ b_r3 (jV A2) := r3; go_upto_region 7 with fail
    refine wp_region_lit ?_; refine zy 2 ?_; refine wpList_nil ?_; go_wp2; go_roundw
    case rel => exact ⟨k + 1, A2, by omega, by go_num, HST, B, by omega, lm, r2, r3, od⟩
    case measure => simp [intOf]; omega
   ·have q3 : decide (0 < x1.r) = false := decide_eq_false hr
    rw [if_neg hr] at HST; go_upto_region 5 with fail
    refine wp_region_lit ?_; refine zy 3 ?_
    refine wpList_nil ?_; go_upto_region 7 with fail
    refine wp_region_lit ?_; refine zy 2 ?_; refine wpList_nil ?_; go_wp2; go_roundw
    case rel => exact ⟨k + 1, A, by omega, by go_num, HST, B, k5, lm, r2, r3, od⟩
    case measure => simp [intOf]; omega
  ·have q1 : decide ((k : Int) < (L.length : Int)) = false := decide_eq_false (by omega)
   have q2 : decide (k < L.length) = false := decide_eq_false hkl; have HF := Lib.hid (show yf A XS = q from by rw [← HE.out, ← HA.out, List.take_of_length_le (by omega)]); go_upto_region 3 with fail
   refine wp_region_lit ?_; refine zy 1 ?_; refine wpList_nil ?_; go_upto_region 8 with fail
   refine wp_region_lit ?_; refine j4 2 ?_
   repeat (first | go_big_quiet_skip | (go_big_quiet_want; first | ((first | refine zn (t := 38) rfl _ _ _ rfl (fun w hw => Zh (zcV lm w hw)) (by first | rfl | omega) ?_ | refine qB ?_ | refine qC ?_); simp only [zo]; go_big_quiet_on) | (go_big_quiet_op; go_big_quiet_on)))
   refine wpQuiet_nil ?_; refine je (enters_of Tryz.func46 (by kernel_rfl) rfl) (c := YD A XS q _ HF.out) (h := ?_); rintro e wn ⟨rfl, za⟩; have zf := B.size; have zg := za.size; replace B := B.trans (za.mono B.size)
   (try replace r2 := r2.below za)
   refine ⟨_, rfl, ?_⟩; simp only [zo]
   (refine zq (t := 38) rfl _ _ rfl _ rfl _ rfl r2 (by kernel_rfl) rfl (by simp [jV, vZ, Value.oneCell']) (qG B (by omega) ?_); clear r2 B; intro wn r2 ze zf zg B; simp only [zo])
   refine wpList_nil ?_; first | (refine bodyPost_ret (zz (t := 38) rfl _ _ (b_r2) rfl r2 Tryz.isAgg38 (by kernel_rfl)) rfl ?_) | (go_step; refine bodyPost_ret (zz (t := 38) rfl _ _ (b_r2) rfl r2 Tryz.isAgg38 (by kernel_rfl)) rfl ?_) | (go_step; go_step; refine bodyPost_ret (zz (t := 38) rfl _ _ (b_r2) rfl r2 Tryz.isAgg38 (by kernel_rfl)) rfl ?_) | (go_step; go_step; go_step; refine bodyPost_ret (zz (t := 38) rfl _ _ (b_r2) rfl r2 Tryz.isAgg38 (by kernel_rfl)) rfl ?_) | (go_step; go_step; go_step; go_step; refine bodyPost_ret (zz (t := 38) rfl _ _ (b_r2) rfl r2 Tryz.isAgg38 (by kernel_rfl)) rfl ?_) | (go_step; go_step; go_step; go_step; go_step; refine bodyPost_ret (zz (t := 38) rfl _ _ (b_r2) rfl r2 Tryz.isAgg38 (by kernel_rfl)) rfl ?_)
   exact ⟨rfl, B⟩
/- Contracts of the reference's Dabs, Area. -/
theorem KQ (w : World) (o : Oper) (ho : o.op = .buildSlice 26 0 #[]) (ev : Operand → Value) : (execOp ev o).run Tryz.prog w = .ok (.value (.slice (some ⟨w.heap.size, 0, none⟩) 0 0)) (w.alloc (.cells #[] 43)) := by
 obtain ⟨d, p, t, ps, af, gd⟩ := o
 simp only at ho
 subst ho
 kernel_rfl
/-- A slice of nothing, in memory of the call's own. -/
theorem JE {ops : Array Oper} {rest : List Oper} {o : Oper} {a : Act} {w : World} {Q : Exit → Act → World → Prop} (hg : o.guard = none) (ho : o.op = .buildSlice 26 0 #[])
  (h : ∀ b w', w.heap.size ≤ b → b ≤ w.heap.size → jb j3 b (.slice (some ⟨b, 0, none⟩) 0 0) [] w' → Below b w w' → w'.heap.size = b + 1 → wpList Tryz.prog ops Q rest (a.put o.dst (.slice (some ⟨b, 0, none⟩) 0 0)) w') : wpList Tryz.prog ops Q (o :: rest) a w :=
 wpList_plain hg fun K hK => by
  unfold Oper.wp; rw [KQ w o ho]; exact hK _ _ (h _ _ (Nat.le_refl _) (Nat.le_refl _) ⟨rfl, .inr ⟨w.heap.size, 0, #[], rfl, Nat.le_refl _, by rw [zO, if_pos rfl], Nat.le_refl _, by unfold maxLen; omega, rfl, rfl⟩⟩ ((Below.refl _ _).alloc (Nat.le_refl _) _) (World.size_alloc _ _))
def zhO (s : jd) (k : Nat) : List Db := (List.range k).map (xg s)
/- Contracts of Clone at points; of Split of package stroke. -/
set_option maxHeartbeats 1000000 in
theorem Yw (v : Value) (l : List Sp) (w : World) (h : xp j3 v l w) (hn : l.length ≤ 100000) : Calls Tryz.prog 69 #[v] w fun e w' => ∃ a c, e = .returned (.slice a l.length c) ∧ jb j3 w.heap.size (.slice a l.length c) l w' ∧ Below w.heap.size w w' := by
 have B := Below.refl w.heap.size w
 have q26 : ∀ (w : World) (a : Option Addr) (n c n' c' : Nat), (binOp .eql 26 (.slice a n c) (.slice none n' c')).run Tryz.prog w = .ok (.bool a.isNone) w := fun w a n c n' c' => Lib.run_eql_slice_nil w _ _ a n c n' c' Tryz.underlying26
 obtain ⟨a, c, rfl, hc⟩ := h.len
 have HS := Lib.hid h
 cases a with
 | none =>
  have hl0 : l = [] := by
   rcases h with ⟨_, h⟩ | ⟨g, o, c', e, _⟩ | ⟨_, _, e, h⟩
   ·exact h
   ·injection e with e1; cases e1
   ·exact h
  subst hl0; clear h HS; go_enter Tryz.func69, Tryz.ntmps69
  go_wp2; go_ret; exact ⟨_, _, rfl, jb.nil _ _, B⟩
 | some ad =>
  go_enter Tryz.func69, Tryz.ntmps69
  go_wp2_with (first | (at_builtin; refine jw rfl _ _ rfl _ _ rfl rfl od (h) (by simp only [List.length_append, List.length_cons, List.length_nil]; omega) (by omega) ?_; intro v_od wn ht za; have zf := B.size; have hbz := za.size; replace B := B.trans (za.mono (by omega)); clear od; have od := ht; clear ht; obtain ⟨a_od, c_od, hv, hco⟩ := od.len; (try simp only [List.length_append, List.length_cons, List.length_nil, Nat.zero_add] at hv hco); subst hv; simp only [zo]) | (refine JE rfl rfl (zY B ?_); clear B; intro b_od wn zb zd od za zf zk B; replace h := h.below (za.mono (by omega)); simp only [zo]) | fail)
  go_ret; exact ⟨_, _, rfl, by rw [List.nil_append] at od; exact od.mono (by omega), B⟩
/-- Two blocks and a slot for results. -/
theorem jB {t u : TypeId} {fn : Func} {p r q : Tmp} (h : fn.results = #[.cell p t, .cell r u, .tmp q]) (tmps : Array Value) (w : World) (b c : Nat) (hp : tmps.getD p undef = .pointer (some ⟨b, 0, none⟩)) (hr : tmps.getD r undef = .pointer (some ⟨c, 0, none⟩)) {cs ds : Array Value} (v : Value) (hq : tmps.getD q undef = v) (ht : zK t w b cs) (hu : zK u w c ds) (hagg : ∀ w : World, (isAgg t).run Tryz.prog w = .ok true w) (zf : (Tryz.prog.info? t).map (·.size) = some cs.size) (hagg2 : ∀ w : World, (isAgg u).run Tryz.prog w = .ok true w) (hsz2 : (Tryz.prog.info? u).map (·.size) = some ds.size) :
  (results fn tmps).run Tryz.prog w = .ok (.tuple #[.agg cs, .agg ds, v]) w := by
 have hl := zv ht hagg zf
 have hl2 := zv hu hagg2 hsz2
 simp only [Instr.loadAt, Instr.sureAddr, Sem.run_bind, Sem.run_pure, Result.andThen_ok] at hl hl2
 unfold results
 rw [h]
 have hp' : tmps[p]?.getD undef = .pointer (some ⟨b, 0, none⟩) := by simpa using hp
 have hr' : tmps[r]?.getD undef = .pointer (some ⟨c, 0, none⟩) := by simpa using hr
 have hq' : tmps[q]?.getD undef = v := by simpa using hq
 simp [hp', hr', hq', Instr.sureAddr, asAddr, hl, hl2, Sem.run_bind, Sem.run_pure, Result.andThen_ok]
theorem zW.taken {α : Type} {k : Nat} {T ST : TypeId} {E : Xq α k T ST} {g o : Nat} {ls : List α} {w : World} (h : zW E g o ls w) {n c : Nat} (hn : n ≤ ls.length) (hc : n ≤ c) : xp E (.slice (some ⟨g, o, none⟩) n c) (ls.take n) w :=
 .inr (.inl ⟨g, o, c, by rw [List.length_take, Nat.min_eq_left hn], by rw [List.length_take]; omega, fun _ => h.take n⟩)
theorem zW.dropped {α : Type} {k : Nat} {T ST : TypeId} {E : Xq α k T ST} {g o : Nat} {ls : List α} {w : World} (h : zW E g o ls w) {n m c : Nat} (hm : m = ls.length - n) (hc : m ≤ c) : xp E (.slice (some ⟨g, o + n * k, none⟩) m c) (ls.drop n) w :=
 .inr (.inl ⟨g, o + n * k, c, by rw [List.length_drop, hm], by rw [List.length_drop]; omega, fun _ => h.drop n⟩)
theorem jn {c : Prop} [Decidable c] {p q : Prop} (h : c) (hp : p) : if c then p else q := by rw [if_pos h]; exact hp
theorem zK.drewN {t : TypeId} {w : World} {b : Nat} {cs : Array Value} (h : zK t w b cs) : zK t w.drew b cs := h
section
variable {o : Oper} {a : Act} {w : World} {Q : Exit → Act → World → Prop} {K : Act → World → Prop}
theorem xn {t : TypeId} {cs : Array Value} (x : Operand) (b : Nat) (ho : o.op = .load t x) (hx : a.eval x = .pointer (some ⟨b, 0, none⟩)) (ht : zK t w b cs) (hagg : ∀ w : World, (isAgg t).run Tryz.prog w = .ok true w) (zf : (Tryz.prog.info? t).map (·.size) = some cs.size)
  (h : K (a.put o.dst (.agg cs)) w) : o.wp Tryz.prog a w K Q := by
 unfold Oper.wp execOp
 simp only [ho, hx, zv ht hagg zf, Sem.run_bind, Sem.run_pure, Result.andThen_ok]
 exact h
theorem wV (v : Value) (hrun : (execOp a.eval o).run Tryz.prog w = .ok (.value v) w) (h : K (a.put o.dst v) w) : o.wp Tryz.prog a w K Q := by
 unfold Oper.wp
 rw [hrun]
 exact h
end
set_option maxHeartbeats 8000000 in
/-- Split, done. -/
theorem Vq (v : Value) (s : jd) (k : Nat) (w : World) (rs : xp j3 v s.pts w) (hv : j2 s = true) (h1 : 1 ≤ k) (h2 : k + 2 ≤ s.pts.length) : Calls Tryz.prog 26 #[.agg (jE v s), .int .i64 (k : Int)] w fun e w' => ∃ va vb, e = .returned (.tuple #[.agg (jE va (spA s k)), .agg (jE vb (spB s k)), .int .i64 0]) ∧ jb j3 w.heap.size va (spA s k).pts w' ∧ jb j3 w.heap.size vb (spB s k).pts w' ∧ Below w.heap.size w w' := by
 have B := Below.refl w.heap.size w
 obtain ⟨a, c, rfl, hc⟩ := rs.len
 have HV := Lib.hid hv
 have HVS := Lib.hid ((xk s).1 hv)
 have hl2 := HVS.out.l2
 have hn : s.pts.length ≤ 17592186044416 := by omega
 obtain ⟨g, o, rfl, pc0⟩ := rs.at (by omega)
 have HPC := Lib.hid pc0
 have hg := pc0.lt
 have q1 : decide ((k : Int) < 1) = false := decide_eq_false (by omega)
 have q2 : decide ((s.pts.length : Int) - 2 < (k : Int)) = false := decide_eq_false (by omega)
 clear hv pc0
 go_enter Tryz.func26, Tryz.ntmps26
 go_upto_region 0 with fail
 refine wp_region_lit ?_
 (refine zt (t := 30) rfl _ rfl _ rfl (zY B ?_); clear B; intro b_r2 wn zb zd r2 za zf zk B; (try have zh := rs.lt); (try replace rs := rs.below (za.mono zb)); simp only [zo])
 (refine zr (t := 30) rfl _ (qD _ _ rfl) (zY B ?_); clear B; intro b_r4 wn zb zd r4 za zf zk B; (try have zh := r2.lt); (try replace r2 := r2.below (za.mono zb)); (try have zh := rs.lt); (try replace rs := rs.below (za.mono zb)); simp only [zo])
 (refine zr (t := 30) rfl _ (qD _ _ rfl) (zY B ?_); clear B; intro b_r5 wn zb zd r5 za zf zk B; (try have zh := r2.lt); (try replace r2 := r2.below (za.mono zb)); (try have zh := r4.lt); (try replace r4 := r4.below (za.mono zb)); (try have zh := rs.lt); (try replace rs := rs.below (za.mono zb)); simp only [zo])
 refine zy 1 ?_
 refine wpList_nil ?_
 have k1 : w.heap.size ≤ b_r2 := by omega
 have k2 : b_r2 < b_r4 := by have := r2.lt; omega
 have k3 : b_r4 < b_r5 := by have := r4.lt; omega
 go_upto_region 1 with fail
 refine wp_region_lit ?_
 refine zy 1 ?_
 refine je (enters_of Tryz.func16 (by kernel_rfl) rfl) (c := xM _ s true _ rs hn HV.out) (h := ?_)
 rintro e wn ⟨rfl, za⟩
 have zf := B.size
 have zg := za.size
 replace B := B.trans (za.mono B.size)
 (try replace r2 := r2.below za)
 (try replace r4 := r4.below za)
 (try replace r5 := r5.below za)
 refine ⟨_, rfl, ?_⟩
 simp only [zo]
 refine zy 9 ?_
 refine zw (by first | rfl | simp [Region.wanted, yielded]) rfl Tryz.underlying26 rfl ?_
 simp only [zo]
 refine zy 3 ?_
 refine wpList_nil ?_
 go_upto_region 3 with fail
 go_cut [7, 8] from 24 to 28 (fun s7 s8 wx => ∃ b_r7 b_r8, s7 = .pointer (some ⟨b_r7, 0, none⟩) ∧ s8 = .pointer (some ⟨b_r8, 0, none⟩) ∧ Below w.heap.size w wx ∧ b_r5 < b_r7 ∧ b_r5 < b_r8 ∧ b_r7 ≠ b_r8 ∧ zK 30 wx b_r2 (jE (.slice (some ⟨g, o, none⟩) s.pts.length c) s) ∧ zK 30 wx b_r4 #[.slice none 0 0, .int .i64 0, .int .i64 0, .int .u8 0, .int .u8 0, .int .u8 0, .int .u8 0, .bool false, .int .i64 0] ∧ zK 30 wx b_r5 #[.slice none 0 0, .int .i64 0, .int .i64 0, .int .u8 0, .int .u8 0, .int .u8 0, .int .u8 0, .bool false, .int .i64 0] ∧ zK 30 wx b_r7 (jE (.slice (some ⟨g, o, none⟩) s.pts.length c) s) ∧ zK 30 wx b_r8 (jE (.slice (some ⟨g, o, none⟩) s.pts.length c) s))
 case first =>
  have hr5 := r5.lt; have r2B := r2; clear rs; refine yG 6 #[false, false, false, false, false, false] (by kernel_rfl) (by kernel_rfl) ?_; intro wn za; have hX := za; have zf := B.size; have zg := za.size; replace B := B.trans (za.mono B.size); try replace r2 := r2.below za
  try replace r4 := r4.below za
  try replace r5 := r5.below za
  simp only [List.length_cons, List.length_nil, Nat.reduceAdd]; refine z1 0 rfl (by kernel_rfl) ⟨_, zG hX⟩ ?_; intro K hK; try simp only [zM]
  (first | (refine zn (t := 30) rfl _ _ _ rfl (fun w hw => zv (zB r2B w hw) Tryz.isAgg30 (by kernel_rfl)) (by rfl) ?_; simp only [zo]; go_big_quiet_on) | (go_big_quiet_op; go_big_quiet_on))
  simp only [zo]; refine z1 1 rfl (by kernel_rfl) ⟨_, zG hX⟩ ?_; intro K hK; try simp only [zM]
  (first | (refine zn (t := 30) rfl _ _ _ rfl (fun w hw => zv (zB r2B w hw) Tryz.isAgg30 (by kernel_rfl)) (by rfl) ?_; simp only [zo]; go_big_quiet_on) | (go_big_quiet_op; go_big_quiet_on))
  simp only [zo]; refine jK 2 3 rfl rfl (by kernel_rfl) rfl rfl (fun K hK => ?_) (fun K hK => ?_)
  ·skip
   refine zQ (t := 30) _ (qD _ _ rfl) ?_; intro b_r7 wn zb zd ht za zg; have zf := B.size; have hsx := hX.size; replace B := B.trans (za.mono (by omega)); replace hX := hX.trans (za.mono (by omega)); try replace r2 := r2.below (za.mono zb)
   try replace r4 := r4.below (za.mono zb)
   try replace r5 := r5.below (za.mono zb)
   try replace r7 := r7.below (za.mono zb)
   try replace r8 := r8.below (za.mono zb)
   have r7 := ht; clear ht; refine hK _ _ ⟨fun _ => ⟨_, zG hX⟩, ?_⟩; clear hK K; simp only [zo]; refine zR 3 rfl (by kernel_rfl) rfl (fun K hK => ?_); refine zQ (t := 30) _ (qD _ _ rfl) ?_; intro b_r8 wn zb zd ht za zg; have zf := B.size; have hsx := hX.size; replace B := B.trans (za.mono (by omega)); replace hX := hX.trans (za.mono (by omega)); try replace r2 := r2.below (za.mono zb)
   try replace r4 := r4.below (za.mono zb)
   try replace r5 := r5.below (za.mono zb)
   try replace r7 := r7.below (za.mono zb)
   try replace r8 := r8.below (za.mono zb)
   have r8 := ht; clear ht; refine hK _ _ ⟨fun _ => ⟨_, zG hX⟩, ?_⟩; clear hK K; simp only [zo]; refine zR 4 rfl (by kernel_rfl) rfl (fun K hK => ?_); refine qY (t := 30) _ _ _ _ rfl rfl rfl r7 (by kernel_rfl) rfl (by simp [jE, Value.oneCell']) ?_; clear r7; intro wn r7 ze zg; have zf := B.size; have hsx := hX.size; replace zg := Nat.le_of_eq zg.symm; replace B := qV.below B ze (by omega) B.size; replace hX := qV.below hX ze (by omega) hX.size; replace r2 := r2.of_eq (ze.block _ r2.lt (by omega)); replace r4 := r4.of_eq (ze.block _ r4.lt (by omega)); replace r5 := r5.of_eq (ze.block _ r5.lt (by omega)); replace r8 := r8.of_eq (ze.block _ r8.lt (by omega)); refine hK _ _ ⟨fun _ => ⟨_, zG hX⟩, ?_⟩; clear hK K; simp only [zo]
   refine zR 5 rfl (by kernel_rfl) rfl (fun K hK => ?_); refine qY (t := 30) _ _ _ _ rfl rfl rfl r8 (by kernel_rfl) rfl (by simp [jE, Value.oneCell']) ?_; clear r8; intro wn r8 ze zg; have zf := B.size; have hsx := hX.size; replace zg := Nat.le_of_eq zg.symm; replace B := qV.below B ze (by omega) B.size; replace hX := qV.below hX ze (by omega) hX.size; replace r2 := r2.of_eq (ze.block _ r2.lt (by omega)); replace r4 := r4.of_eq (ze.block _ r4.lt (by omega)); replace r5 := r5.of_eq (ze.block _ r5.lt (by omega)); replace r7 := r7.of_eq (ze.block _ r7.lt (by omega)); refine hK _ _ ⟨fun _ => ⟨_, zG hX⟩, ?_⟩; clear hK K; simp only [zo]; refine qE (by kernel_rfl) (by kernel_rfl) ?_; simp only [List.drop_succ_cons, List.drop_zero]; refine wpList_nil ?_; refine zL.normal ?_; go_wp2_with fail
   go_meet; exact ⟨b_r7, b_r8, rfl, rfl, B, by omega, by omega, by omega, r2, r4, r5, r7, r8⟩
  ·skip
   refine zQ (t := 30) _ (qD _ _ rfl) ?_; intro b_r8 wn zb zd ht za zg; have zf := B.size; have hsx := hX.size; replace B := B.trans (za.mono (by omega)); replace hX := hX.trans (za.mono (by omega)); try replace r2 := r2.below (za.mono zb)
   try replace r4 := r4.below (za.mono zb)
   try replace r5 := r5.below (za.mono zb)
   try replace r7 := r7.below (za.mono zb)
   try replace r8 := r8.below (za.mono zb)
   have r8 := ht; clear ht; refine hK _ _ ⟨fun _ => ⟨_, zG hX⟩, ?_⟩; clear hK K; simp only [zo]; refine zR 2 rfl (by kernel_rfl) rfl (fun K hK => ?_); refine zQ (t := 30) _ (qD _ _ rfl) ?_; intro b_r7 wn zb zd ht za zg; have zf := B.size; have hsx := hX.size; replace B := B.trans (za.mono (by omega)); replace hX := hX.trans (za.mono (by omega)); try replace r2 := r2.below (za.mono zb)
   try replace r4 := r4.below (za.mono zb)
   try replace r5 := r5.below (za.mono zb)
   try replace r7 := r7.below (za.mono zb)
   try replace r8 := r8.below (za.mono zb)
   have r7 := ht; clear ht; refine hK _ _ ⟨fun _ => ⟨_, zG hX⟩, ?_⟩; clear hK K; simp only [zo]; refine zR 4 rfl (by kernel_rfl) rfl (fun K hK => ?_); refine qY (t := 30) _ _ _ _ rfl rfl rfl r7 (by kernel_rfl) rfl (by simp [jE, Value.oneCell']) ?_; clear r7; intro wn r7 ze zg; have zf := B.size; have hsx := hX.size; replace zg := Nat.le_of_eq zg.symm; replace B := qV.below B ze (by omega) B.size; replace hX := qV.below hX ze (by omega) hX.size; replace r2 := r2.of_eq (ze.block _ r2.lt (by omega)); replace r4 := r4.of_eq (ze.block _ r4.lt (by omega)); replace r5 := r5.of_eq (ze.block _ r5.lt (by omega)); replace r8 := r8.of_eq (ze.block _ r8.lt (by omega)); refine hK _ _ ⟨fun _ => ⟨_, zG hX⟩, ?_⟩; clear hK K; simp only [zo]
   refine zR 5 rfl (by kernel_rfl) rfl (fun K hK => ?_); refine qY (t := 30) _ _ _ _ rfl rfl rfl r8 (by kernel_rfl) rfl (by simp [jE, Value.oneCell']) ?_; clear r8; intro wn r8 ze zg; have zf := B.size; have hsx := hX.size; replace zg := Nat.le_of_eq zg.symm; replace B := qV.below B ze (by omega) B.size; replace hX := qV.below hX ze (by omega) hX.size; replace r2 := r2.of_eq (ze.block _ r2.lt (by omega)); replace r4 := r4.of_eq (ze.block _ r4.lt (by omega)); replace r5 := r5.of_eq (ze.block _ r5.lt (by omega)); replace r7 := r7.of_eq (ze.block _ r7.lt (by omega)); refine hK _ _ ⟨fun _ => ⟨_, zG hX⟩, ?_⟩; clear hK K; simp only [zo]; refine qE (by kernel_rfl) (by kernel_rfl) ?_; simp only [List.drop_succ_cons, List.drop_zero]; refine wpList_nil ?_; refine zL.normal ?_; go_wp2_with fail
   go_meet; exact ⟨b_r7, b_r8, rfl, rfl, B, by omega, by omega, by omega, r2, r4, r5, r7, r8⟩
 case rest =>
 clear B r2 r4 r5
 obtain ⟨b_r7, b_r8, rfl, rfl, B, k4, k5, k6, r2, r4, r5, r7, r8⟩ := hcut
 have pc := HPC.out.of_eq (B.block _ HPC.out.lt)
 have r7l := r7.lt
 have r8l := r8.lt
 clear rs
 obtain ⟨PA, hPA⟩ : ∃ l, s.pts.take (k + 1) = l := ⟨_, rfl⟩
 obtain ⟨PB, hPB⟩ : ∃ l, s.pts.drop k = l := ⟨_, rfl⟩
 have HLA := Lib.hid (show PA.length = k + 1 from by rw [← hPA, List.length_take]; omega)
 have HLB := Lib.hid (show PB.length = s.pts.length - k from by rw [← hPB, List.length_drop])
 have HPA := Lib.hid hPA
 have HPB := Lib.hid hPB
 have HOKA := Lib.hid (show ∀ a ∈ PA, Qs a from fun a ha => HVS.out.ok a (by rw [← hPA] at ha; exact List.mem_of_mem_take ha))
 obtain ⟨t, ht⟩ : ∃ t, vc PA = t := ⟨_, rfl⟩
 have HT := Lib.hid ht
 have htb : 0 ≤ t ∧ t ≤ 189812544 := by
  have h3 := HVS.out.pre (show k < s.pts.length by omega); have h4 := zdI (s := s) (at_ := k) (by omega); rw [hPA, ht] at h4; omega
 have HPH := Lib.hid (show zcZ s k = if s.pha - t < 0 then s.pha - t + (s.spa - 1 - (s.pha - t)) / s.spa * s.spa else s.pha - t from by unfold zcZ; rw [hPA, ht])
 have RA := Lib.hid (show ∀ W, zW j3 g o s.pts W → xp j3 (.slice (some ⟨g, o, none⟩) (k + 1) c) PA W from fun W h => by rw [← hPA]; exact h.taken (by omega) (by omega))
 have RB := Lib.hid (show ∀ W, zW j3 g o s.pts W → xp j3 (.slice (some ⟨g, o + k * 3, none⟩) (s.pts.length - k) (c - k)) PB W from fun W h => by rw [← hPB]; exact h.dropped rfl (by omega))
 have hs1 := HVS.out.s1
 have hs2 := HVS.out.s2
 have hq1 := HVS.out.p1
 have hq2 := HVS.out.p2
 have hkc : ¬ c = k := by omega
 have u1 : decide (k ≤ c) = true := decide_eq_true (by omega)
 have u2 : decide (k + 1 ≤ c) = true := decide_eq_true (by omega)
 have u3 : decide (k ≤ s.pts.length) = true := decide_eq_true (by omega)
 clear hPA hPB ht
 obtain ⟨b0, hb0⟩ : ∃ b, b = wc.heap.size := ⟨_, rfl⟩
 have hb7 : b_r7 < b0 := by omega
 have hb8 : b_r8 < b0 := by omega
 have HB0 := Lib.hid hb0
 clear hb0
 go_upto_region 4 with fail
 refine wp_region_lit ?_
 refine zy 5 ?_
 refine je (enters_of Tryz.func69 (by kernel_rfl) rfl) (c := Yw _ PA _ (RA.out _ pc) (by have := HLA.out; omega)) (h := ?_)
 rintro e wn ⟨a4, c4, rfl, o7, za⟩
 have zf := B.size
 have zg := za.size
 replace B := B.trans (za.mono B.size)
 (try replace r2 := r2.below za)
 (try replace r4 := r4.below za)
 (try replace r5 := r5.below za)
 (try replace r7 := r7.below za)
 (try replace r8 := r8.below za)
 (try replace pc := pc.below za)
 replace o7 := o7.mono (show b0 ≤ _ from by have := HB0.out; omega)
 refine ⟨_, rfl, ?_⟩
 simp only [zo]
 refine zy 1 ?_
 (refine kT (t := 30) rfl _ _ rfl _ 0 rfl _ _ _ rfl r7 rfl (qG B (by omega) ?_); clear r7 B; intro wn r7 ze zf zg B; replace o7 := o7.chg ze (by omega); (try replace r2 := r2.of_eq (ze.block _ r2.lt (by omega))); (try replace r4 := r4.of_eq (ze.block _ r4.lt (by omega))); (try replace r5 := r5.of_eq (ze.block _ r5.lt (by omega))); (try replace r8 := r8.of_eq (ze.block _ r8.lt (by omega))); (try replace pc := pc.of_eq (ze.block _ pc.lt (by omega))); simp only [zo])
 refine wpList_nil ?_
 replace r7 : zK 30 _ b_r7 (jE (.slice a4 PA.length c4) s) := r7
 go_upto_region 5 with fail
 refine wp_region_lit ?_
 refine zy 4 ?_
 refine je (enters_of Tryz.func69 (by kernel_rfl) rfl) (c := Yw _ PB _ (RB.out _ pc) (by have := HLB.out; omega)) (h := ?_)
 rintro e wn ⟨a5, c5, rfl, o8, za⟩
 have zf := B.size
 have zg := za.size
 replace B := B.trans (za.mono B.size)
 (try replace r2 := r2.below za)
 (try replace r4 := r4.below za)
 (try replace r5 := r5.below za)
 (try replace r7 := r7.below za)
 (try replace r8 := r8.below za)
 (try replace pc := pc.below za)
 (try replace o7 := o7.below za)
 replace o8 := o8.mono (show b0 ≤ _ from by have := HB0.out; omega)
 refine ⟨_, rfl, ?_⟩
 simp only [zo]
 refine zy 1 ?_
 (refine kT (t := 30) rfl _ _ rfl _ 0 rfl _ _ _ rfl r8 rfl (qG B (by omega) ?_); clear r8 B; intro wn r8 ze zf zg B; replace o7 := o7.chg ze (by omega); replace o8 := o8.chg ze (by omega); (try replace r2 := r2.of_eq (ze.block _ r2.lt (by omega))); (try replace r4 := r4.of_eq (ze.block _ r4.lt (by omega))); (try replace r5 := r5.of_eq (ze.block _ r5.lt (by omega))); (try replace r7 := r7.of_eq (ze.block _ r7.lt (by omega))); (try replace pc := pc.of_eq (ze.block _ pc.lt (by omega))); simp only [zo])
 refine wpList_nil ?_
 replace r8 : zK 30 _ b_r8 (jE (.slice a5 PB.length c5) s) := r8
 clear pc
 go_upto_region 6 with fail
 have rs7 := o7.rs
 try have lx_r2 := r2.lt
 try have lx_r4 := r4.lt
 try have lx_r5 := r5.lt
 try have lx_r7 := r7.lt
 try have lx_r8 := r8.lt
 try have lx_o7 := o7.lt
 try have lx_o8 := o8.lt
 try have lx_rs7 := rs7.lt
 refine zJ 7 [(4, zN ?v1_4)] (by kernel_rfl) (by kernel_rfl) (by kernel_rfl) ?_
 rotate_left 1
 simp only [jZ, Nat.reduceAdd]
 refine kX 4 ?_
 refine zD (by rfl) (by first | rfl | simp [Region.wanted, yielded]) ?_ ?_
 ·intro wn za hE Kx hKx
  have zf := B.size; have zg := za.size; replace B := B.trans (za.mono B.size)
  (try replace r2 := r2.below za)
  (try replace r4 := r4.below za)
  (try replace r5 := r5.below za)
  (try replace r7 := r7.below za)
  (try replace r8 := r8.below za)
  (try replace o7 := o7.below za)
  (try replace o8 := o8.below za)
  (try replace rs7 := rs7.below za)
  refine zP rfl (enters_of Tryz.func54 (by kernel_rfl) rfl) (by simp only [Act.eval, qI]; rfl) ?_
  refine (Wl _ PA t wn rs7 (by have := HLA.out; omega) HOKA.out HT.out).mono ?_
  rintro e wm ⟨rfl, zl⟩; refine ⟨_, rfl, ?_⟩; have hz := hKx () wm trivial zl
  dsimp only [zN] at hz
  exact hz
 rintro ⟨⟩
 dsimp only [zN]
 simp only [zo]
 refine kX 2 ?_
 refine qi ?_
 intro wn za hE
 have zf := B.size
 have zg := za.size
 replace B := B.trans (za.mono B.size)
 (try replace r2 := r2.below za)
 (try replace r4 := r4.below za)
 (try replace r5 := r5.below za)
 (try replace r7 := r7.below za)
 (try replace r8 := r8.below za)
 (try replace o7 := o7.below za)
 (try replace o8 := o8.below za)
 (try replace rs7 := rs7.below za)
 clear hE
 try simp only [List.drop_succ_cons, List.drop_zero]
 go_wp2_with (first | (refine yg (t := 30) rfl _ _ rfl _ 8 rfl _ rfl r8 rfl (qG B (by omega) ?_); clear r8 B; intro wn r8 ze zf zg B; replace o7 := o7.chg ze (by omega); replace o8 := o8.chg ze (by omega); (try replace r2 := r2.of_eq (ze.block _ r2.lt (by omega))); (try replace r4 := r4.of_eq (ze.block _ r4.lt (by omega))); (try replace r5 := r5.of_eq (ze.block _ r5.lt (by omega))); (try replace r7 := r7.of_eq (ze.block _ r7.lt (by omega))); simp only [zo]) | fail)
 refine zL.normal ?_
 replace r8 : zK 30 _ b_r8 (jE (.slice a5 PB.length c5) ⟨s.pts, s.rad, s.spa, s.col, s.era, s.pha - t⟩) := r8
 clear rs7
 have hbw : w.heap.size ≤ b0 := by omega
 go_upto_region 7 with fail
 by_cases hneg : s.pha - t < 0
 ·have q3 : decide (s.pha - t < 0) = true := decide_eq_true hneg
  have hnn : 0 ≤ s.spa - 1 - (s.pha - t) := by omega
  have hdb : 0 ≤ (s.spa - 1 - (s.pha - t)) / s.spa := Int.ediv_nonneg hnn (by omega); have hdb2 : (s.spa - 1 - (s.pha - t)) / s.spa ≤ s.spa - 1 - (s.pha - t) := Int.ediv_le_self _ hnn; have hmb := j5 (a := (s.spa - 1 - (s.pha - t)) / s.spa) (b := s.spa) (m := 200000000) (k := 4096) hdb (by omega) (by omega) hs2; have e0 : s.spa ≠ 0 := by omega
  have e00 : (s.spa == 0) = false := by simp; omega
  obtain ⟨ph, hph⟩ : ∃ p, s.pha - t + (s.spa - 1 - (s.pha - t)) / s.spa * s.spa = p := ⟨_, rfl⟩; have HPHV := Lib.hid hph; have HPV := Lib.hid (show zcZ s k = ph from by rw [HPH.out, if_pos hneg, hph]); clear hph; refine wp_region_lit ?_; refine zy 3 ?_
  refine wpList_nil ?_; go_upto_region 8 with fail
  try have lx_r2 := r2.lt
  try have lx_r4 := r4.lt
  try have lx_r5 := r5.lt
  try have lx_r7 := r7.lt
  try have lx_r8 := r8.lt
  try have lx_o7 := o7.lt
  try have lx_o8 := o8.lt
  refine zJ 16 [] (by kernel_rfl) (by kernel_rfl) (by kernel_rfl) ?_
  rotate_left 0
  simp only [jZ, Nat.reduceAdd]; refine kX 16 ?_
  refine qi ?_; intro wn za hE; have zf := B.size; have zg := za.size; replace B := B.trans (za.mono B.size)
  (try replace r2 := r2.below za)
  (try replace r4 := r4.below za)
  (try replace r5 := r5.below za)
  (try replace r7 := r7.below za)
  (try replace r8 := r8.below za)
  (try replace o7 := o7.below za)
  (try replace o8 := o8.below za)
  clear hE; try simp only [List.drop_succ_cons, List.drop_zero]
  go_wp2_with (first | (refine yg (t := 30) rfl _ _ rfl _ 8 rfl _ rfl r8 rfl (qG B (by omega) ?_); clear r8 B; intro wn r8 ze zf zg B; replace o7 := o7.chg ze (by omega); replace o8 := o8.chg ze (by omega); (try replace r2 := r2.of_eq (ze.block _ r2.lt (by omega))); (try replace r4 := r4.of_eq (ze.block _ r4.lt (by omega))); (try replace r5 := r5.of_eq (ze.block _ r5.lt (by omega))); (try replace r7 := r7.of_eq (ze.block _ r7.lt (by omega))); simp only [zo]) | fail)
  refine zL.normal ?_; replace r8 : zK 30 _ b_r8 (jE (.slice a5 PB.length c5) ⟨s.pts, s.rad, s.spa, s.col, s.era, s.pha - t + (s.spa - 1 - (s.pha - t)) / s.spa * s.spa⟩) := r8; rw [HPHV.out] at r8; go_upto_region 9 with fail
  go_cut [6] from 9 to 67 (fun s6 wx => s6 = .int .i64 0 ∧ Below w.heap.size w wx ∧ jb j3 b0 (.slice a4 PA.length c4) PA wx ∧ jb j3 b0 (.slice a5 PB.length c5) PB wx ∧ zK 30 wx b_r4 (jE (.slice a4 PA.length c4) s) ∧ zK 30 wx b_r5 (jE (.slice a5 PB.length c5) ⟨s.pts, s.rad, s.spa, s.col, s.era, ph⟩))
  case first =>
   refine wp_region_any (by kernel_rfl) ?_; change wpAny _ _ _ _ _ _ _ (World.drew _)
   replace B := B.drew; replace r2 := zK.drewN r2; replace r4 := zK.drewN r4; replace r5 := zK.drewN r5; replace r7 := zK.drewN r7; replace r8 := zK.drewN r8; replace o7 := o7.below ((Below.refl _ _).drew); replace o8 := o8.below ((Below.refl _ _).drew)
   generalize wn.drew = w7 at *
   refine wpAny_ready (rs := [0, 1]) (by kernel_rfl) (by simp) ?_; refine AllReady.cons rfl (fun K hK => jn rfl ?_) ?_
   ·simp only [zM]
    refine xn (t := 30) _ _ rfl rfl r7 Tryz.isAgg30 (by kernel_rfl) ?_; refine hK _ _ ?_; simp only [zo]; clear hK K; refine wpAny_ready (rs := [1, 2]) (by kernel_rfl) (by simp) ?_; refine AllReady.cons rfl (fun K hK => jn rfl ?_) ?_
    ·simp only [zM]
     refine xn (t := 30) _ _ rfl rfl r8 Tryz.isAgg30 (by kernel_rfl) ?_; refine hK _ _ ?_; simp only [zo]; clear hK K; refine wpAny_ready (rs := [2]) (by kernel_rfl) (by simp) ?_; refine AllReady.cons rfl (fun K hK => jn rfl ?_) ?_
     ·simp only [zM]
      refine qY (t := 30) _ _ _ _ rfl rfl rfl r4 (by kernel_rfl) rfl (by simp [jE, Value.oneCell']) ?_; clear r4; intro wn r4 ze zg; have zf := B.size; replace zg := Nat.le_of_eq zg.symm; replace B := qV.below B ze (by omega) B.size; replace o7 := o7.chg ze (by omega); replace o8 := o8.chg ze (by omega); replace r2 := r2.of_eq (ze.block _ r2.lt (by omega)); replace r5 := r5.of_eq (ze.block _ r5.lt (by omega)); replace r7 := r7.of_eq (ze.block _ r7.lt (by omega)); replace r8 := r8.of_eq (ze.block _ r8.lt (by omega)); refine hK _ _ ?_; simp only [zo]; clear hK K; refine wpAny_ready (rs := [3]) (by kernel_rfl) (by simp) ?_; refine AllReady.cons rfl (fun K hK => jn rfl ?_) ?_
      ·simp only [zM]
       refine qY (t := 30) _ _ _ _ rfl rfl rfl r5 (by kernel_rfl) rfl (by simp [jE, Value.oneCell']) ?_; clear r5; intro wn r5 ze zg; have zf := B.size; replace zg := Nat.le_of_eq zg.symm; replace B := qV.below B ze (by omega) B.size; replace o7 := o7.chg ze (by omega); replace o8 := o8.chg ze (by omega); replace r2 := r2.of_eq (ze.block _ r2.lt (by omega)); replace r4 := r4.of_eq (ze.block _ r4.lt (by omega)); replace r7 := r7.of_eq (ze.block _ r7.lt (by omega)); replace r8 := r8.of_eq (ze.block _ r8.lt (by omega)); refine hK _ _ ?_; simp only [zo]; clear hK K; refine wpAny_ready (rs := [4]) (by kernel_rfl) (by simp) ?_; refine AllReady.cons rfl (fun K hK => jn rfl ?_) ?_
       ·simp only [zM]
        refine wV (_) (by rfl) ?_; refine hK _ _ ?_; simp only [zo]; clear hK K; refine wpAny_done (by kernel_rfl) ?_ _; go_wp2_with fail
        go_meet; exact ⟨rfl, B, o7, o8, r4, r5⟩
       exact AllReady.nil
      exact AllReady.nil
     exact AllReady.nil
    refine AllReady.cons rfl (fun K hK => jn rfl ?_) ?_
    ·simp only [zM]
     refine qY (t := 30) _ _ _ _ rfl rfl rfl r4 (by kernel_rfl) rfl (by simp [jE, Value.oneCell']) ?_; clear r4; intro wn r4 ze zg; have zf := B.size; replace zg := Nat.le_of_eq zg.symm; replace B := qV.below B ze (by omega) B.size; replace o7 := o7.chg ze (by omega); replace o8 := o8.chg ze (by omega); replace r2 := r2.of_eq (ze.block _ r2.lt (by omega)); replace r5 := r5.of_eq (ze.block _ r5.lt (by omega)); replace r7 := r7.of_eq (ze.block _ r7.lt (by omega)); replace r8 := r8.of_eq (ze.block _ r8.lt (by omega)); refine hK _ _ ?_; simp only [zo]; clear hK K; refine wpAny_ready (rs := [1]) (by kernel_rfl) (by simp) ?_; refine AllReady.cons rfl (fun K hK => jn rfl ?_) ?_
     ·simp only [zM]
      refine xn (t := 30) _ _ rfl rfl r8 Tryz.isAgg30 (by kernel_rfl) ?_; refine hK _ _ ?_; simp only [zo]; clear hK K; refine wpAny_ready (rs := [3]) (by kernel_rfl) (by simp) ?_; refine AllReady.cons rfl (fun K hK => jn rfl ?_) ?_
      ·simp only [zM]
       refine qY (t := 30) _ _ _ _ rfl rfl rfl r5 (by kernel_rfl) rfl (by simp [jE, Value.oneCell']) ?_; clear r5; intro wn r5 ze zg; have zf := B.size; replace zg := Nat.le_of_eq zg.symm; replace B := qV.below B ze (by omega) B.size; replace o7 := o7.chg ze (by omega); replace o8 := o8.chg ze (by omega); replace r2 := r2.of_eq (ze.block _ r2.lt (by omega)); replace r4 := r4.of_eq (ze.block _ r4.lt (by omega)); replace r7 := r7.of_eq (ze.block _ r7.lt (by omega)); replace r8 := r8.of_eq (ze.block _ r8.lt (by omega)); refine hK _ _ ?_; simp only [zo]; clear hK K; refine wpAny_ready (rs := [4]) (by kernel_rfl) (by simp) ?_; refine AllReady.cons rfl (fun K hK => jn rfl ?_) ?_
       ·simp only [zM]
        refine wV (_) (by rfl) ?_; refine hK _ _ ?_; simp only [zo]; clear hK K; refine wpAny_done (by kernel_rfl) ?_ _; go_wp2_with fail
        go_meet; exact ⟨rfl, B, o7, o8, r4, r5⟩
       exact AllReady.nil
      exact AllReady.nil
     exact AllReady.nil
    exact AllReady.nil
   refine AllReady.cons rfl (fun K hK => jn rfl ?_) ?_
   ·simp only [zM]
    refine xn (t := 30) _ _ rfl rfl r8 Tryz.isAgg30 (by kernel_rfl) ?_; refine hK _ _ ?_; simp only [zo]; clear hK K; refine wpAny_ready (rs := [0]) (by kernel_rfl) (by simp) ?_; refine AllReady.cons rfl (fun K hK => jn rfl ?_) ?_
    ·simp only [zM]
     refine xn (t := 30) _ _ rfl rfl r7 Tryz.isAgg30 (by kernel_rfl) ?_; refine hK _ _ ?_; simp only [zo]; clear hK K; refine wpAny_ready (rs := [2]) (by kernel_rfl) (by simp) ?_; refine AllReady.cons rfl (fun K hK => jn rfl ?_) ?_
     ·simp only [zM]
      refine qY (t := 30) _ _ _ _ rfl rfl rfl r4 (by kernel_rfl) rfl (by simp [jE, Value.oneCell']) ?_; clear r4; intro wn r4 ze zg; have zf := B.size; replace zg := Nat.le_of_eq zg.symm; replace B := qV.below B ze (by omega) B.size; replace o7 := o7.chg ze (by omega); replace o8 := o8.chg ze (by omega); replace r2 := r2.of_eq (ze.block _ r2.lt (by omega)); replace r5 := r5.of_eq (ze.block _ r5.lt (by omega)); replace r7 := r7.of_eq (ze.block _ r7.lt (by omega)); replace r8 := r8.of_eq (ze.block _ r8.lt (by omega)); refine hK _ _ ?_; simp only [zo]; clear hK K; refine wpAny_ready (rs := [3]) (by kernel_rfl) (by simp) ?_; refine AllReady.cons rfl (fun K hK => jn rfl ?_) ?_
      ·simp only [zM]
       refine qY (t := 30) _ _ _ _ rfl rfl rfl r5 (by kernel_rfl) rfl (by simp [jE, Value.oneCell']) ?_; clear r5; intro wn r5 ze zg; have zf := B.size; replace zg := Nat.le_of_eq zg.symm; replace B := qV.below B ze (by omega) B.size; replace o7 := o7.chg ze (by omega); replace o8 := o8.chg ze (by omega); replace r2 := r2.of_eq (ze.block _ r2.lt (by omega)); replace r4 := r4.of_eq (ze.block _ r4.lt (by omega)); replace r7 := r7.of_eq (ze.block _ r7.lt (by omega)); replace r8 := r8.of_eq (ze.block _ r8.lt (by omega)); refine hK _ _ ?_; simp only [zo]; clear hK K; refine wpAny_ready (rs := [4]) (by kernel_rfl) (by simp) ?_; refine AllReady.cons rfl (fun K hK => jn rfl ?_) ?_
       ·simp only [zM]
        refine wV (_) (by rfl) ?_; refine hK _ _ ?_; simp only [zo]; clear hK K; refine wpAny_done (by kernel_rfl) ?_ _; go_wp2_with fail
        go_meet; exact ⟨rfl, B, o7, o8, r4, r5⟩
       exact AllReady.nil
      exact AllReady.nil
     exact AllReady.nil
    exact AllReady.nil
   exact AllReady.nil
  case rest =>
  clear B o7 o8 r4 r5; obtain ⟨rfl, B, o7, o8, r4, r5⟩ := hcut; first | (refine bodyPost_ret (jB (t := 30) (u := 30) rfl _ _ b_r4 b_r5 rfl rfl _ rfl r4 r5 Tryz.isAgg30 (by kernel_rfl) Tryz.isAgg30 (by kernel_rfl)) rfl ?_) | (go_step; refine bodyPost_ret (jB (t := 30) (u := 30) rfl _ _ b_r4 b_r5 rfl rfl _ rfl r4 r5 Tryz.isAgg30 (by kernel_rfl) Tryz.isAgg30 (by kernel_rfl)) rfl ?_) | (go_step; go_step; refine bodyPost_ret (jB (t := 30) (u := 30) rfl _ _ b_r4 b_r5 rfl rfl _ rfl r4 r5 Tryz.isAgg30 (by kernel_rfl) Tryz.isAgg30 (by kernel_rfl)) rfl ?_) | (go_step; go_step; go_step; refine bodyPost_ret (jB (t := 30) (u := 30) rfl _ _ b_r4 b_r5 rfl rfl _ rfl r4 r5 Tryz.isAgg30 (by kernel_rfl) Tryz.isAgg30 (by kernel_rfl)) rfl ?_) | (go_step; go_step; go_step; go_step; refine bodyPost_ret (jB (t := 30) (u := 30) rfl _ _ b_r4 b_r5 rfl rfl _ rfl r4 r5 Tryz.isAgg30 (by kernel_rfl) Tryz.isAgg30 (by kernel_rfl)) rfl ?_) | (go_step; go_step; go_step; go_step; go_step; refine bodyPost_ret (jB (t := 30) (u := 30) rfl _ _ b_r4 b_r5 rfl rfl _ rfl r4 r5 Tryz.isAgg30 (by kernel_rfl) Tryz.isAgg30 (by kernel_rfl)) rfl ?_)
  have e4 : jE (.slice a4 PA.length c4) s = jE (.slice a4 PA.length c4) (spA s k) := rfl; have e5 : jE (.slice a5 PB.length c5) ⟨s.pts, s.rad, s.spa, s.col, s.era, ph⟩ = jE (.slice a5 PB.length c5) (spB s k) := by rw [← HPV.out]; rfl
  rw [e4, e5]; exact ⟨_, _, rfl, by show jb j3 _ _ (s.pts.take (k + 1)) _; rw [HPA.out]; exact o7.mono (by have := HB0.out; omega), by show jb j3 _ _ (s.pts.drop k) _; rw [HPB.out]; exact o8.mono (by have := HB0.out; omega), B⟩
 ·have q3 : decide (s.pha - t < 0) = false := decide_eq_false hneg
  obtain ⟨ph, hph⟩ : ∃ p, s.pha - t = p := ⟨_, rfl⟩; have HPV := Lib.hid (show zcZ s k = ph from by rw [HPH.out, if_neg hneg, hph]); have HPHV := Lib.hid hph; clear hph; refine wp_region_lit ?_; refine zy 3 ?_
  refine wpList_nil ?_; rw [HPHV.out] at r8; go_upto_region 9 with fail
  go_cut [6] from 9 to 67 (fun s6 wx => s6 = .int .i64 0 ∧ Below w.heap.size w wx ∧ jb j3 b0 (.slice a4 PA.length c4) PA wx ∧ jb j3 b0 (.slice a5 PB.length c5) PB wx ∧ zK 30 wx b_r4 (jE (.slice a4 PA.length c4) s) ∧ zK 30 wx b_r5 (jE (.slice a5 PB.length c5) ⟨s.pts, s.rad, s.spa, s.col, s.era, ph⟩))
  case first =>
   refine wp_region_any (by kernel_rfl) ?_; change wpAny _ _ _ _ _ _ _ (World.drew _)
   replace B := B.drew; replace r2 := zK.drewN r2; replace r4 := zK.drewN r4; replace r5 := zK.drewN r5; replace r7 := zK.drewN r7; replace r8 := zK.drewN r8; replace o7 := o7.below ((Below.refl _ _).drew); replace o8 := o8.below ((Below.refl _ _).drew)
   generalize wn.drew = w7 at *
   refine wpAny_ready (rs := [0, 1]) (by kernel_rfl) (by simp) ?_; refine AllReady.cons rfl (fun K hK => jn rfl ?_) ?_
   ·simp only [zM]
    refine xn (t := 30) _ _ rfl rfl r7 Tryz.isAgg30 (by kernel_rfl) ?_; refine hK _ _ ?_; simp only [zo]; clear hK K; refine wpAny_ready (rs := [1, 2]) (by kernel_rfl) (by simp) ?_; refine AllReady.cons rfl (fun K hK => jn rfl ?_) ?_
    ·simp only [zM]
     refine xn (t := 30) _ _ rfl rfl r8 Tryz.isAgg30 (by kernel_rfl) ?_; refine hK _ _ ?_; simp only [zo]; clear hK K; refine wpAny_ready (rs := [2]) (by kernel_rfl) (by simp) ?_; refine AllReady.cons rfl (fun K hK => jn rfl ?_) ?_
     ·simp only [zM]
      refine qY (t := 30) _ _ _ _ rfl rfl rfl r4 (by kernel_rfl) rfl (by simp [jE, Value.oneCell']) ?_; clear r4; intro wn r4 ze zg; have zf := B.size; replace zg := Nat.le_of_eq zg.symm; replace B := qV.below B ze (by omega) B.size; replace o7 := o7.chg ze (by omega); replace o8 := o8.chg ze (by omega); replace r2 := r2.of_eq (ze.block _ r2.lt (by omega)); replace r5 := r5.of_eq (ze.block _ r5.lt (by omega)); replace r7 := r7.of_eq (ze.block _ r7.lt (by omega)); replace r8 := r8.of_eq (ze.block _ r8.lt (by omega)); refine hK _ _ ?_; simp only [zo]; clear hK K; refine wpAny_ready (rs := [3]) (by kernel_rfl) (by simp) ?_; refine AllReady.cons rfl (fun K hK => jn rfl ?_) ?_
      ·simp only [zM]
       refine qY (t := 30) _ _ _ _ rfl rfl rfl r5 (by kernel_rfl) rfl (by simp [jE, Value.oneCell']) ?_; clear r5; intro wn r5 ze zg; have zf := B.size; replace zg := Nat.le_of_eq zg.symm; replace B := qV.below B ze (by omega) B.size; replace o7 := o7.chg ze (by omega); replace o8 := o8.chg ze (by omega); replace r2 := r2.of_eq (ze.block _ r2.lt (by omega)); replace r4 := r4.of_eq (ze.block _ r4.lt (by omega)); replace r7 := r7.of_eq (ze.block _ r7.lt (by omega)); replace r8 := r8.of_eq (ze.block _ r8.lt (by omega)); refine hK _ _ ?_; simp only [zo]; clear hK K; refine wpAny_ready (rs := [4]) (by kernel_rfl) (by simp) ?_; refine AllReady.cons rfl (fun K hK => jn rfl ?_) ?_
       ·simp only [zM]
        refine wV (_) (by rfl) ?_; refine hK _ _ ?_; simp only [zo]; clear hK K; refine wpAny_done (by kernel_rfl) ?_ _; go_wp2_with fail
        go_meet; exact ⟨rfl, B, o7, o8, r4, r5⟩
       exact AllReady.nil
      exact AllReady.nil
     exact AllReady.nil
    refine AllReady.cons rfl (fun K hK => jn rfl ?_) ?_
    ·simp only [zM]
     refine qY (t := 30) _ _ _ _ rfl rfl rfl r4 (by kernel_rfl) rfl (by simp [jE, Value.oneCell']) ?_; clear r4; intro wn r4 ze zg; have zf := B.size; replace zg := Nat.le_of_eq zg.symm; replace B := qV.below B ze (by omega) B.size; replace o7 := o7.chg ze (by omega); replace o8 := o8.chg ze (by omega); replace r2 := r2.of_eq (ze.block _ r2.lt (by omega)); replace r5 := r5.of_eq (ze.block _ r5.lt (by omega)); replace r7 := r7.of_eq (ze.block _ r7.lt (by omega)); replace r8 := r8.of_eq (ze.block _ r8.lt (by omega)); refine hK _ _ ?_; simp only [zo]; clear hK K; refine wpAny_ready (rs := [1]) (by kernel_rfl) (by simp) ?_; refine AllReady.cons rfl (fun K hK => jn rfl ?_) ?_
     ·simp only [zM]
      refine xn (t := 30) _ _ rfl rfl r8 Tryz.isAgg30 (by kernel_rfl) ?_; refine hK _ _ ?_; simp only [zo]; clear hK K; refine wpAny_ready (rs := [3]) (by kernel_rfl) (by simp) ?_; refine AllReady.cons rfl (fun K hK => jn rfl ?_) ?_
      ·simp only [zM]
       refine qY (t := 30) _ _ _ _ rfl rfl rfl r5 (by kernel_rfl) rfl (by simp [jE, Value.oneCell']) ?_; clear r5; intro wn r5 ze zg; have zf := B.size; replace zg := Nat.le_of_eq zg.symm; replace B := qV.below B ze (by omega) B.size; replace o7 := o7.chg ze (by omega); replace o8 := o8.chg ze (by omega); replace r2 := r2.of_eq (ze.block _ r2.lt (by omega)); replace r4 := r4.of_eq (ze.block _ r4.lt (by omega)); replace r7 := r7.of_eq (ze.block _ r7.lt (by omega)); replace r8 := r8.of_eq (ze.block _ r8.lt (by omega)); refine hK _ _ ?_; simp only [zo]; clear hK K; refine wpAny_ready (rs := [4]) (by kernel_rfl) (by simp) ?_; refine AllReady.cons rfl (fun K hK => jn rfl ?_) ?_
       ·simp only [zM]
        refine wV (_) (by rfl) ?_; refine hK _ _ ?_; simp only [zo]; clear hK K; refine wpAny_done (by kernel_rfl) ?_ _; go_wp2_with fail
        go_meet; exact ⟨rfl, B, o7, o8, r4, r5⟩
       exact AllReady.nil
      exact AllReady.nil
     exact AllReady.nil
    exact AllReady.nil
   refine AllReady.cons rfl (fun K hK => jn rfl ?_) ?_
   ·simp only [zM]
    refine xn (t := 30) _ _ rfl rfl r8 Tryz.isAgg30 (by kernel_rfl) ?_; refine hK _ _ ?_; simp only [zo]; clear hK K; refine wpAny_ready (rs := [0]) (by kernel_rfl) (by simp) ?_; refine AllReady.cons rfl (fun K hK => jn rfl ?_) ?_
    ·simp only [zM]
     refine xn (t := 30) _ _ rfl rfl r7 Tryz.isAgg30 (by kernel_rfl) ?_; refine hK _ _ ?_; simp only [zo]; clear hK K; refine wpAny_ready (rs := [2]) (by kernel_rfl) (by simp) ?_; refine AllReady.cons rfl (fun K hK => jn rfl ?_) ?_
     ·simp only [zM]
      refine qY (t := 30) _ _ _ _ rfl rfl rfl r4 (by kernel_rfl) rfl (by simp [jE, Value.oneCell']) ?_; clear r4; intro wn r4 ze zg; have zf := B.size; replace zg := Nat.le_of_eq zg.symm; replace B := qV.below B ze (by omega) B.size; replace o7 := o7.chg ze (by omega); replace o8 := o8.chg ze (by omega); replace r2 := r2.of_eq (ze.block _ r2.lt (by omega)); replace r5 := r5.of_eq (ze.block _ r5.lt (by omega)); replace r7 := r7.of_eq (ze.block _ r7.lt (by omega)); replace r8 := r8.of_eq (ze.block _ r8.lt (by omega)); refine hK _ _ ?_; simp only [zo]; clear hK K; refine wpAny_ready (rs := [3]) (by kernel_rfl) (by simp) ?_; refine AllReady.cons rfl (fun K hK => jn rfl ?_) ?_
      ·simp only [zM]
       refine qY (t := 30) _ _ _ _ rfl rfl rfl r5 (by kernel_rfl) rfl (by simp [jE, Value.oneCell']) ?_; clear r5; intro wn r5 ze zg; have zf := B.size; replace zg := Nat.le_of_eq zg.symm; replace B := qV.below B ze (by omega) B.size; replace o7 := o7.chg ze (by omega); replace o8 := o8.chg ze (by omega); replace r2 := r2.of_eq (ze.block _ r2.lt (by omega)); replace r4 := r4.of_eq (ze.block _ r4.lt (by omega)); replace r7 := r7.of_eq (ze.block _ r7.lt (by omega)); replace r8 := r8.of_eq (ze.block _ r8.lt (by omega)); refine hK _ _ ?_; simp only [zo]; clear hK K; refine wpAny_ready (rs := [4]) (by kernel_rfl) (by simp) ?_; refine AllReady.cons rfl (fun K hK => jn rfl ?_) ?_
       ·simp only [zM]
        refine wV (_) (by rfl) ?_; refine hK _ _ ?_; simp only [zo]; clear hK K; refine wpAny_done (by kernel_rfl) ?_ _; go_wp2_with fail
        go_meet; exact ⟨rfl, B, o7, o8, r4, r5⟩
       exact AllReady.nil
      exact AllReady.nil
     exact AllReady.nil
    exact AllReady.nil
   exact AllReady.nil
  case rest =>
  clear B o7 o8 r4 r5; obtain ⟨rfl, B, o7, o8, r4, r5⟩ := hcut; first | (refine bodyPost_ret (jB (t := 30) (u := 30) rfl _ _ b_r4 b_r5 rfl rfl _ rfl r4 r5 Tryz.isAgg30 (by kernel_rfl) Tryz.isAgg30 (by kernel_rfl)) rfl ?_) | (go_step; refine bodyPost_ret (jB (t := 30) (u := 30) rfl _ _ b_r4 b_r5 rfl rfl _ rfl r4 r5 Tryz.isAgg30 (by kernel_rfl) Tryz.isAgg30 (by kernel_rfl)) rfl ?_) | (go_step; go_step; refine bodyPost_ret (jB (t := 30) (u := 30) rfl _ _ b_r4 b_r5 rfl rfl _ rfl r4 r5 Tryz.isAgg30 (by kernel_rfl) Tryz.isAgg30 (by kernel_rfl)) rfl ?_) | (go_step; go_step; go_step; refine bodyPost_ret (jB (t := 30) (u := 30) rfl _ _ b_r4 b_r5 rfl rfl _ rfl r4 r5 Tryz.isAgg30 (by kernel_rfl) Tryz.isAgg30 (by kernel_rfl)) rfl ?_) | (go_step; go_step; go_step; go_step; refine bodyPost_ret (jB (t := 30) (u := 30) rfl _ _ b_r4 b_r5 rfl rfl _ rfl r4 r5 Tryz.isAgg30 (by kernel_rfl) Tryz.isAgg30 (by kernel_rfl)) rfl ?_) | (go_step; go_step; go_step; go_step; go_step; refine bodyPost_ret (jB (t := 30) (u := 30) rfl _ _ b_r4 b_r5 rfl rfl _ rfl r4 r5 Tryz.isAgg30 (by kernel_rfl) Tryz.isAgg30 (by kernel_rfl)) rfl ?_)
  have e4 : jE (.slice a4 PA.length c4) s = jE (.slice a4 PA.length c4) (spA s k) := rfl; have e5 : jE (.slice a5 PB.length c5) ⟨s.pts, s.rad, s.spa, s.col, s.era, ph⟩ = jE (.slice a5 PB.length c5) (spB s k) := by rw [← HPV.out]; rfl
  rw [e4, e5]; exact ⟨_, _, rfl, by show jb j3 _ _ (s.pts.take (k + 1)) _; rw [HPA.out]; exact o7.mono (by have := HB0.out; omega), by show jb j3 _ _ (s.pts.drop k) _; rw [HPB.out]; exact o8.mono (by have := HB0.out; omega), B⟩
end Go.Proofs.YtepelndbbhdofaaGreatDoor
/- Contract of Read of package stroke. -/
namespace Go.Proofs.YtepelndbbhdofaaGreatDoor
open Go.RowKit Sha Pl
set_option linter.unusedVariables false
set_option linter.unusedSimpArgs false
set_option maxRecDepth 20000
/-! ### The states of the reader -/
def VX (l : List UInt8) (st : Nat × Bool) : Sp × (Nat × Bool) := (⟨(beN (kS l st 3).1 : Int) - 1048576, (beN (kS l (kS l st 3).2 3).1 : Int) - 1048576, (beN (kS l (kS l (kS l st 3).2 3).2 1).1 : Int)⟩, (kS l (kS l (kS l st 3).2 3).2 1).2)
def Ji (l : List UInt8) : Nat → List Sp × (Nat × Bool)
 | 0 => ([], (kS l (0, false) 1).2)
 | k + 1 => ((Ji l k).1 ++ [(VX l (Ji l k).2).1], (VX l (Ji l k).2).2)
theorem W8 (l : List UInt8) : ∀ k, (Ji l k).1.length = k
 | 0 => rfl
 | k + 1 => by
  show ((Ji l k).1 ++ [_]).length = _
  rw [List.length_append, W8 l k]
  rfl
theorem zfX {l : List UInt8} {st : Nat × Bool} (h : (VX l st).2.2 = false) : st.2 = false ∧ (VX l st).2.1 = st.1 + 7 ∧ st.1 + 7 ≤ l.length := by
 obtain ⟨a1, a2, a3⟩ := vD (l := l) (m := 1) h
 obtain ⟨b1, b2, b3⟩ := vD a1
 obtain ⟨c1, c2, c3⟩ := vD b1
 refine ⟨c1, ?_, ?_⟩
 ·show (kS l (kS l (kS l st 3).2 3).2 1).2.1 = _
  rw [a2, b2, c2]
 ·rw [b2, c2] at a3
  omega
theorem zde (l : List UInt8) : ∀ k, (Ji l k).2.2 = false → (Ji l k).2.1 = 1 + 7 * k ∧ 1 + 7 * k ≤ l.length
 | 0, h => by
  obtain ⟨_, a2, a3⟩ := vD (l := l) (st := (0, false)) (m := 1) h; exact ⟨by show (kS l (0, false) 1).2.1 = _; rw [a2], by simpa using a3⟩
 | k + 1, h => by
  obtain ⟨a1, a2, a3⟩ := zfX (l := l) h; obtain ⟨b1, b2⟩ := zde l k a1; refine ⟨?_, ?_⟩
  ·show (VX l (Ji l k).2).2.1 = _
   rw [a2, b1]; omega
  ·rw [b1] at a3
   omega
theorem zfY {l : List UInt8} {st : Nat × Bool} (h : st.1 ≤ l.length) : (VX l st).2.1 ≤ l.length := kZ (kZ (kZ h))
theorem zdf (l : List UInt8) : ∀ k, (Ji l k).2.1 ≤ l.length
 | 0 => kZ (Nat.zero_le _)
 | k + 1 => zfY (zdf l k)
theorem zfZ {l : List UInt8} {k : Nat} (h : 8 + 7 * k ≤ l.length) : VX l (1 + 7 * k, false) = (VP l k, (1 + 7 * (k + 1), false)) := by
 unfold VX
 rw [kB (by omega)]
 simp only
 rw [kB (by omega)]
 simp only
 rw [kB (by omega)]
 simp only
 unfold VP
 rw [show 1 + 7 * k + 3 = 4 + 7 * k by omega, show 4 + 7 * k + 3 = 7 + 7 * k by omega, show 7 + 7 * k + 1 = 1 + 7 * (k + 1) by omega]
theorem VW (l : List UInt8) : ∀ k, 1 + 7 * k ≤ l.length → Ji l k = ((List.range k).map (VP l), (1 + 7 * k, false))
 | 0, h => by
  show ([], (kS l (0, false) 1).2) = _
  rw [kB (by omega)]
  rfl
 | k + 1, h => by
  show ((Ji l k).1 ++ [(VX l (Ji l k).2).1], (VX l (Ji l k).2).2) = _
  rw [VW l k (by omega)]; simp only; rw [zfZ (by omega), List.range_succ, List.map_append]
  rfl
theorem zdg (l : List UInt8) : beN (kS l (0, false) 1).1 = uc l := by
 unfold uc
 by_cases h : 0 + 1 ≤ l.length
 ·rw [kB h]
 ·have : l = [] := List.length_eq_zero_iff.1 (by omega)
  subst this
  rfl
/-- What the reader takes behind the points. -/
structure Tl (l : List UInt8) (st : Nat × Bool) (a b c d e : List UInt8) (s1 s2 s3 s4 s5 : Nat × Bool) : Prop where
 h1 : kS l st 2 = (a, s1)
 h2 : kS l s1 2 = (b, s2)
 h3 : kS l s2 4 = (c, s3)
 h4 : kS l s3 1 = (d, s4)
 h5 : kS l s4 3 = (e, s5)
theorem ze2 (l : List UInt8) (st : Nat × Bool) : ∃ a b c d e s1 s2 s3 s4 s5, Tl l st a b c d e s1 s2 s3 s4 s5 := ⟨_, _, _, _, _, _, _, _, _, _, ⟨rfl, rfl, rfl, rfl, rfl⟩⟩
theorem Tl.bad {l : List UInt8} {k : Nat} {a b c d e : List UInt8} {s1 s2 s3 s4 s5 : Nat × Bool} (h : Tl l (Ji l k).2 a b c d e s1 s2 s3 s4 s5) (hl : l.length < 13 + 7 * k) : s5.2 = true := by
 cases hs : s5.2 with
 | true => rfl
 | false =>
  obtain ⟨a1, a2, a3⟩ := vD (l := l) (st := s4) (m := 3) (by rw [h.h5]; exact hs)
  obtain ⟨b1, b2, b3⟩ := vD (l := l) (st := s3) (m := 1) (by rw [h.h4]; exact a1)
  obtain ⟨c1, c2, c3⟩ := vD (l := l) (st := s2) (m := 4) (by rw [h.h3]; exact b1)
  obtain ⟨d1, d2, d3⟩ := vD (l := l) (st := s1) (m := 2) (by rw [h.h2]; exact c1)
  obtain ⟨e1, e2, e3⟩ := vD (l := l) (st := (Ji l k).2) (m := 2) (by rw [h.h1]; exact d1)
  rw [h.h4] at b2; rw [h.h3] at c2; rw [h.h2] at d2; rw [h.h1] at e2; have f := (zde l k e1).1; simp only at b2 c2 d2 e2; omega
theorem Tl.good {l : List UInt8} {k : Nat} {a b c d e : List UInt8} {s1 s2 s3 s4 s5 : Nat × Bool} (h : Tl l (Ji l k).2 a b c d e s1 s2 s3 s4 s5) (hl : 13 + 7 * k ≤ l.length) : s5.2 = false ∧ a = xx l (1 + 7 * k) 2 ∧ b = xx l (3 + 7 * k) 2 ∧ c = xx l (5 + 7 * k) 4 ∧ d = xx l (9 + 7 * k) 1 ∧ e = xx l (10 + 7 * k) 3 := by
 have h1 := h.h1
 rw [VW l k (by omega)] at h1
 simp only at h1
 rw [kB (by omega)] at h1
 injection h1 with e1 e2
 have h2 := h.h2
 rw [← e2, kB (by omega)] at h2
 injection h2 with e3 e4
 have h3 := h.h3
 rw [← e4, kB (by omega)] at h3
 injection h3 with e5 e6
 have h4 := h.h4
 rw [← e6, kB (by omega)] at h4
 injection h4 with e7 e8
 have h5 := h.h5
 rw [← e8, kB (by omega)] at h5
 injection h5 with e9 e10
 rw [← e1, ← e3, ← e5, ← e7, ← e9, ← e10]
 refine ⟨rfl, rfl, ?_, ?_, ?_, ?_⟩ <;> (congr 1; omega)
theorem Tl.le {l : List UInt8} {st : Nat × Bool} {a b c d e : List UInt8} {s1 s2 s3 s4 s5 : Nat × Bool} (h : Tl l st a b c d e s1 s2 s3 s4 s5) (h0 : st.1 ≤ l.length) : s1.1 ≤ l.length ∧ s2.1 ≤ l.length ∧ s3.1 ≤ l.length ∧ s4.1 ≤ l.length := by
 have a1 := kZ (m := 2) h0
 rw [h.h1] at a1
 have a2 := kZ (m := 2) a1
 rw [h.h2] at a2
 have a3 := kZ (m := 4) a2
 rw [h.h3] at a3
 have a4 := kZ (m := 1) a3
 rw [h.h4] at a4
 exact ⟨a1, a2, a3, a4⟩
theorem XE {l : List UInt8} {st : Nat × Bool} {m : Nat} (hm : m ≤ 3) : beN (kS l st m).1 < 16777216 :=
 Nat.lt_of_lt_of_le (QH _) (by rw [show (16777216 : Nat) = 256 ^ 3 from rfl]; exact Nat.pow_le_pow_right (by omega) (Nat.le_trans Qv hm))
/-- A colour stored into a stroke. -/
theorem Yq {ops : Array Oper} {rest : List Oper} {o : Oper} {a : Act} {w : World} {Q : Exit → Act → World → Prop} (hg : o.guard = none) (x y : Operand) (ho : o.op = .store 28 x y) (b : Nat) (hx : a.eval x = .pointer (some ⟨b, 3, none⟩)) (q : Px) (hy : a.eval y = .agg #[.int .u8 q.r, .int .u8 q.g, .int .u8 q.b, .int .u8 q.a]) {v : Value} {s : jd} (ht : zK 30 w b (jE v s))
  (h : ∀ w', zK 30 w' b (jE v { s with col := q }) → qV b w w' → w'.heap.size = w.heap.size → wpList Tryz.prog ops Q rest (a.put o.dst undef) w') : wpList Tryz.prog ops Q (o :: rest) a w := by
 have c3 : w.cell? ⟨b, 3, none⟩ = some (.int .u8 s.col.r) := ht.cell 3 rfl
 have c4 : w.cell? ⟨b, 4, none⟩ = some (.int .u8 s.col.g) := ht.cell 4 rfl
 have c5 : w.cell? ⟨b, 5, none⟩ = some (.int .u8 s.col.b) := ht.cell 5 rfl
 have c6 : w.cell? ⟨b, 6, none⟩ = some (.int .u8 s.col.a) := ht.cell 6 rfl
 have hf := fun j => zK.frozen ht j
 refine qk hg x y ho ((((w.setCell ⟨b, 3, none⟩ (.int .u8 q.r)).setCell ⟨b, 4, none⟩ (.int .u8 q.g)).setCell ⟨b, 5, none⟩ (.int .u8 q.b)).setCell ⟨b, 6, none⟩ (.int .u8 q.a)) ?_ (h _ ?_ (((((qV.refl b w).setCell _).setCell _).setCell _).setCell _) (by simp only [World.size_setCell]))
 ·rw [hx, hy]
  simp [go_sem, c3, c4, c5, c6, hf]
 ·exact heap_setCell_same _ b 6 _ _ (.int .u8 q.a) (heap_setCell_same _ b 5 _ _ (.int .u8 q.b) (heap_setCell_same _ b 4 _ _ (.int .u8 q.g) (heap_setCell_same _ b 3 _ _ (.int .u8 q.r) ht)))
/- Contract of Read of package stroke. -/
theorem zdE (s t : ByteArray) : (s.toList == t.toList) = decide (s = t) := by
 rw [ByteArray.toList_eq, ByteArray.toList_eq]
 by_cases h : s = t
 ·rw [decide_eq_true h, h]; simp
 ·rw [decide_eq_false h, beq_eq_false_iff_ne]
  exact fun e => h (by rw [← J7 s, ← J7 t]; exact congrArg yw e)
theorem WV {a b : List UInt8} : yw a = yw b ↔ a = b := ⟨fun e => congrArg bytes e, fun e => by rw [e]⟩
theorem zdn (A B : List UInt8) (w : World) : (binOp .neq 9 (.string (yw A)) (.string (yw B))).run Tryz.prog w = .ok (.bool (!decide (A = B))) w := by
 have h : decide (yw A = yw B) = decide (A = B) := by
  by_cases e : A = B
  ·rw [decide_eq_true e, decide_eq_true (WV.2 e)]
  ·rw [decide_eq_false e, decide_eq_false (fun k => e (WV.1 k))]
 simp [go_sem, zdE, h]
theorem zdm (t : TypeId) (x y : Operand) (A B : List UInt8) (w : World) : (eqGuard BinOp.neq t x y (.string (yw A)) (.string (yw B))).run Tryz.prog w = .ok () w := by first | rfl | simp [go_sem, eqGuard]
theorem vC {o : Oper} {a : Act} {C : World → Prop} {K : Act → Prop} {x y : Operand} (h : o.op = .binOp .neq 9 x y 9) (A B : List UInt8) (hx : a.eval x = .string (yw A)) (hy : a.eval y = .string (yw B)) (z : Bool) (hz : (!decide (A = B)) = z) (hk : K (a.put o.dst (.bool z))) : o.quiet Tryz.prog a C K := by
 subst hz
 exact ⟨_, fun w hw => by unfold Oper.quietAt execOp; simp only [h, hx, hy, zdm, zdn A B w, Sem.run_bind, Sem.run_pure, Result.andThen_ok]; exact ⟨rfl, rfl⟩, hk⟩
set_option maxHeartbeats 8000000 in
theorem Wb (l : List UInt8) (S : jd) (E : Int) (w : World) (hl : l.length ≤ 100000000) (e : uj l = (S, E)) : Calls Tryz.prog 34 #[.string (yw l)] w fun e w' => ∃ v, e = .returned (.tuple #[.agg (jE v S), .int .i64 E]) ∧ xp j3 v S.pts w' ∧ Below w.heap.size w w' := by
 have B := Below.refl w.heap.size w
 have HE := Lib.hid e
 clear e
 obtain ⟨⟨x0, i0, f0⟩, hx0⟩ : ∃ t, kS l (0, false) 1 = t := ⟨_, rfl⟩
 have hn0 : beN x0 = uc l := by rw [← zdg, hx0]
 have h00 : Ji l 0 = ([], (i0, f0)) := by show ([], (kS l (0, false) 1).2) = _; rw [hx0]
 have HX0 := Lib.hid hx0
 have H00 := Lib.hid h00
 clear hx0 h00
 have hpn : uc l < 256 := by have := QH (xx l 0 1); unfold uc; exact Nat.lt_of_lt_of_le this (by rw [show (256 : Nat) = 256 ^ 1 from rfl]; exact Nat.pow_le_pow_right (by omega) (by unfold xx; rw [List.length_take]; omega))
 obtain ⟨n, hn⟩ : ∃ n, uc l = n := ⟨_, rfl⟩
 rw [hn] at hn0 hpn
 have HN := Lib.hid hn
 clear hn
 go_enter Tryz.func34, Tryz.ntmps34
 go_upto_region 0 with fail
 refine wp_region_lit ?_
 (refine zr (t := 30) rfl _ (qD _ _ rfl) (zY B ?_); clear B; intro b_r2 wn zb zd r2 za zf zk B; simp only [zo])
 refine zy 1 ?_
 refine wpList_nil ?_
 have k1 : w.heap.size ≤ b_r2 := by omega
 have hr2 := r2.lt
 go_upto_region 1 with fail
 refine wp_region_lit ?_
 refine zy 1 ?_
 refine je (enters_of Tryz.func86 (by kernel_rfl) rfl) (c := zdU l _) (h := ?_)
 rintro e wn ⟨b_rd, hb_rd, rfl, rd, za⟩
 have zf := B.size
 have zg := za.size
 replace B := B.trans (za.mono B.size)
 (try replace r2 := r2.below za)
 refine ⟨_, rfl, ?_⟩
 simp only [zo]
 refine zy 1 ?_
 refine wpList_nil ?_
 have k2 : b_r2 < b_rd := by omega
 have hrd := rd.lt
 go_upto_region 2 with fail
 refine wp_region_lit ?_
 (refine zr (t := 30) rfl _ (qD _ _ rfl) (zY B ?_); clear B; intro b_t5 wn zb zd t5 za zf zk B; (try have zh := r2.lt); (try replace r2 := r2.below (za.mono zb)); (try have zh := rd.lt); (try replace rd := rd.below (za.mono zb)); simp only [zo])
 refine wpList_nil ?_
 have k3 : b_rd < b_t5 := by omega
 have ht5 := t5.lt
 obtain ⟨b1, hb1⟩ : ∃ n, n = wn.heap.size := ⟨_, rfl⟩
 have k4 : b_t5 < b1 := by omega
 have k5 : b1 ≤ wn.heap.size := by omega
 clear hb1 hr2 hrd ht5
 have od : jb j3 b1 (.slice none 0 0) [] wn := jb.nil b1 wn
 replace t5 : zK 30 _ b_t5 (jE (.slice none 0 0) zSt) := t5
 go_upto_region 3 with fail
 refine wp_region_lit ?_
 refine zy 1 ?_
 refine je (enters_of Tryz.func87 (by kernel_rfl) rfl) (c := Xv l 0 false b_rd x0 i0 f0 _ rd hl (Nat.zero_le _) HX0.out) (h := ?_)
 rintro e wn ⟨rfl, rd2, ze⟩
 have zf := B.size
 have zg := ze.size
 replace B := qV.below B ze (by omega) B.size
 replace r2 := r2.of_eq (ze.block _ r2.lt (by omega))
 replace t5 := t5.of_eq (ze.block _ t5.lt (by omega))
 replace od := od.chg ze (by omega)
 clear rd
 have rd := rd2
 clear rd2
 refine ⟨_, rfl, ?_⟩
 simp only [zo]
 refine zy 1 ?_
 refine wpList_nil ?_
 rw [hn0]
 have k6 : b1 ≤ wn.heap.size := by omega
 clear k5
 go_wp2
 go_loopw [6, 7, 13] (fun _ _ iv wr => ∃ (k i : Nat) (fl : Bool) (P : List Sp) (ap : Option Addr) (cp : Nat), k ≤ n ∧ iv = .int .i64 (k : Int) ∧ Hid (Ji l k = (P, (i, fl))) ∧ Below w.heap.size w wr ∧ b1 ≤ wr.heap.size ∧ zK 180 wr b_rd (JR l i fl) ∧ zK 30 wr b_r2 #[.slice none 0 0, .int .i64 0, .int .i64 0, .int .u8 0, .int .u8 0, .int .u8 0, .int .u8 0, .bool false, .int .i64 0] ∧ zK 30 wr b_t5 (jE (.slice ap P.length cp) zSt) ∧ jb j3 b1 (.slice ap P.length cp) P wr) (fun _ _ iv _ => (n - intOf iv).toNat)
 case atStart => exact ⟨0, i0, f0, [], none, 0, by omega, rfl, H00, B, k6, rd, r2, t5, od⟩
 case round =>
  clear B k6 rd r2 t5 od HX0 H00; obtain ⟨k, i, fl, P, ap, cp, hk, rfl, HK, B, k6, rd, r2, t5, od⟩ := hrel; have hPn : P.length = k := by have := W8 l k; rw [HK.out] at this; exact this
  have hi := zdf l k; rw [HK.out] at hi; simp only at hi; by_cases hkn : k < n
  ·have q1 : decide ((k : Int) < (n : Int)) = true := decide_eq_true (by omega)
   have q2 : decide (k < n) = true := decide_eq_true hkn; have hst : Ji l (k + 1) = (P ++ [(VX l (i, fl)).1], (VX l (i, fl)).2) := by
    show ((Ji l k).1 ++ [(VX l (Ji l k).2).1], (VX l (Ji l k).2).2) = _
    rw [HK.out]
   unfold VX at hst; obtain ⟨⟨xa, ia, fa⟩, hxa⟩ : ∃ t, kS l (i, fl) 3 = t := ⟨_, rfl⟩; have la := kZ (m := 3) (st := (i, fl)) hi; have na := XE (l := l) (st := (i, fl)) (m := 3) (by omega); rw [hxa] at hst la na; simp only at hst la na; obtain ⟨⟨xb, ib, fb⟩, hxb⟩ : ∃ t, kS l (ia, fa) 3 = t := ⟨_, rfl⟩; have lb := kZ (m := 3) (st := (ia, fa)) la; have nb := XE (l := l) (st := (ia, fa)) (m := 3) (by omega); rw [hxb] at hst lb nb; simp only at hst lb nb; obtain ⟨⟨xc, ic, fc⟩, hxc⟩ : ∃ t, kS l (ib, fb) 1 = t := ⟨_, rfl⟩; have nc := XE (l := l) (st := (ib, fb)) (m := 1) (by omega); rw [hxc] at hst nc; simp only at hst nc; have HA := Lib.hid hxa; have HB := Lib.hid hxb; have HC := Lib.hid hxc; have HST := Lib.hid hst; clear hxa hxb hxc hst HK; obtain ⟨na_, hna⟩ : ∃ n, beN xa = n := ⟨_, rfl⟩; obtain ⟨nb_, hnb⟩ : ∃ n, beN xb = n := ⟨_, rfl⟩; obtain ⟨nc_, hnc⟩ : ∃ n, beN xc = n := ⟨_, rfl⟩
   rw [hna] at na; rw [hnb] at nb; rw [hnc] at nc; rw [hna, hnb, hnc] at HST; go_upto_region 4 with fail
   refine wp_region_lit ?_; refine zy 1 ?_; refine wpList_nil ?_; go_upto_region 5 with fail
   refine wp_region_lit ?_; refine zy 1 ?_; refine je (enters_of Tryz.func87 (by kernel_rfl) rfl) (c := Xw l i fl b_rd xa ia fa _ rd hl hi HA.out) (h := ?_); rintro e wn ⟨rfl, rd2, ze⟩; have zf := B.size; have zg := ze.size; replace B := qV.below B ze (by omega) B.size; replace r2 := r2.of_eq (ze.block _ r2.lt (by omega)); replace t5 := t5.of_eq (ze.block _ t5.lt (by omega)); replace od := od.chg ze (by omega); clear rd; have rd := rd2; clear rd2; rw [hna]; refine ⟨_, rfl, ?_⟩; simp only [zo]; refine zy 2 ?_; refine je (enters_of Tryz.func87 (by kernel_rfl) rfl) (c := Xw l ia fa b_rd xb ib fb _ rd hl la HB.out) (h := ?_); rintro e wn ⟨rfl, rd2, ze⟩; have zf := B.size; have zg := ze.size; replace B := qV.below B ze (by omega) B.size; replace r2 := r2.of_eq (ze.block _ r2.lt (by omega)); replace t5 := t5.of_eq (ze.block _ t5.lt (by omega))
   replace od := od.chg ze (by omega); clear rd; have rd := rd2; clear rd2; rw [hnb]; refine ⟨_, rfl, ?_⟩; simp only [zo]; refine zy 2 ?_; refine je (enters_of Tryz.func87 (by kernel_rfl) rfl) (c := Xv l ib fb b_rd xc ic fc _ rd hl lb HC.out) (h := ?_); rintro e wn ⟨rfl, rd2, ze⟩; have zf := B.size; have zg := ze.size; replace B := qV.below B ze (by omega) B.size; replace r2 := r2.of_eq (ze.block _ r2.lt (by omega)); replace t5 := t5.of_eq (ze.block _ t5.lt (by omega)); replace od := od.chg ze (by omega); clear rd; have rd := rd2; clear rd2; rw [hnc]; refine ⟨_, rfl, ?_⟩; simp only [zo]; refine zy 1 ?_; obtain ⟨wM, hwM⟩ : ∃ z, z = wn := ⟨_, rfl⟩; subst hwM; have HOD := Lib.hid od; have BM := B; have hws := BM.size; have kM : b1 ≤ wM.heap.size := by omega
   have B := Below.refl wM.heap.size wM; have hlr2 := r2.lt; have hlt5 := t5.lt; have hlrd := rd.lt; clear od
   (refine zr (t := 43) rfl _ (km _ _ rfl) (zY B ?_); clear B; intro b_t6 wn zb zd t6 za zf zk B; (try have zh := r2.lt); (try replace r2 := r2.below (za.mono zb)); (try have zh := t5.lt); (try replace t5 := t5.below (za.mono zb)); (try have zh := rd.lt); (try replace rd := rd.below (za.mono zb)); simp only [zo])
   (refine zq (t := 43) rfl _ _ rfl _ rfl _ rfl t6 (by kernel_rfl) rfl (by simp [j3, Value.oneCell']) (qG B (by omega) ?_); clear t6 B; intro wn t6 ze zf zg B; (try replace r2 := r2.of_eq (ze.block _ r2.lt (by omega))); (try replace t5 := t5.of_eq (ze.block _ t5.lt (by omega))); (try replace rd := rd.of_eq (ze.block _ rd.lt (by omega))); simp only [zo])
   refine wpList_nil ?_; have od := HOD.out.below B; have B0 := BM.trans (B.mono hws); have k7 : b1 ≤ wn.heap.size := Nat.le_trans kM B.size; clear B; have B := B0; clear B0 BM; obtain ⟨p, hp⟩ : ∃ p : Sp, p = ⟨(na_ : Int) - 1048576, (nb_ : Int) - 1048576, (nc_ : Int)⟩ := ⟨_, rfl⟩; have t6p : zK 43 wn b_t6 (j3.enc p) := by rw [hp]; exact t6
   rw [← hp] at HST; clear t6 hp; have t6 := t6p; clear t6p; go_upto_region 6 with fail
   refine wp_region_lit ?_; refine zy 3 ?_
   (refine xI (E := j3) rfl _ rfl (p) rfl (by omega) (zY B ?_); clear B; intro b_s1 wn zb zd s1 za zf zk B; replace od := od.below (za.mono zb); (try have zh := r2.lt); (try replace r2 := r2.below (za.mono zb)); (try have zh := t5.lt); (try replace t5 := t5.below (za.mono zb)); (try have zh := rd.lt); (try replace rd := rd.below (za.mono zb)); simp only [zo])
   (at_builtin; refine jw rfl _ _ rfl _ _ rfl rfl od ((xp.one s1)) (by simp only [List.length_append, List.length_cons, List.length_nil]; omega) (by omega) ?_; intro v_od wn ht za; have zf := B.size; have hbz := za.size; replace B := B.trans (za.mono (by omega)); clear od; (try replace r2 := r2.of_eq (za.block _ (by omega))); (try replace t5 := t5.of_eq (za.block _ (by omega))); (try replace rd := rd.of_eq (za.block _ (by omega))); have od := ht; clear ht; obtain ⟨a_od, c_od, hv, hco⟩ := od.len; (try simp only [List.length_append, List.length_cons, List.length_nil, Nat.zero_add] at hv hco); subst hv; simp only [zo])
   refine zy 1 ?_; refine wpList_nil ?_; go_upto_region 7 with fail
   refine wp_region_lit ?_; refine zy 2 ?_
   (refine kT (t := 30) rfl _ _ rfl _ 0 rfl _ _ _ rfl t5 rfl (qG B (by omega) ?_); clear t5 B; intro wn t5 ze zf zg B; (try replace r2 := r2.of_eq (ze.block _ r2.lt (by omega))); (try replace rd := rd.of_eq (ze.block _ rd.lt (by omega))); replace od := od.chg ze (by omega); simp only [zo])
   refine wpList_nil ?_; go_upto_region 8 with fail
   refine wp_region_lit ?_; refine zy 2 ?_; refine wpList_nil ?_; go_wp2; go_roundw
   case rel => exact ⟨k + 1, ic, fc, P ++ [p], _, _, by omega, by go_num, HST, B, by omega, rd, r2, by rw [List.length_append]; exact t5, by rw [List.length_append]; exact od⟩
   case measure => simp [intOf]; omega
  ·have q1 : decide ((k : Int) < (n : Int)) = false := decide_eq_false (by omega)
   have q2 : decide (k < n) = false := decide_eq_false hkn; have hke : k = n := by omega
   subst hke; obtain ⟨a, b, c, d, e, ⟨i1, f1⟩, ⟨i2, f2⟩, ⟨i3, f3⟩, ⟨i4, f4⟩, ⟨i5, f5⟩, TL⟩ := ze2 l (i, fl); obtain ⟨m1, m2, m3, m4⟩ := TL.le hi; simp only at m1 m2 m3 m4; have HT1 := Lib.hid TL.h1; have HT2 := Lib.hid TL.h2; have HT3 := Lib.hid TL.h3; have HT4 := Lib.hid TL.h4; have HT5 := Lib.hid TL.h5; have HTL := Lib.hid (show Tl l (Ji l k).2 a b c d e (i1, f1) (i2, f2) (i3, f3) (i4, f4) (i5, f5) from by rw [HK.out]; exact TL)
   clear TL; obtain ⟨na_, hna⟩ : ∃ n, beN a = n := ⟨_, rfl⟩; obtain ⟨nb_, hnb⟩ : ∃ n, beN b = n := ⟨_, rfl⟩; obtain ⟨nd_, hnd⟩ : ∃ n, beN d = n := ⟨_, rfl⟩; obtain ⟨ne_, hne⟩ : ∃ n, beN e = n := ⟨_, rfl⟩; have qd : ((nd_ : Int) == 1) = decide (nd_ = 1) := by
    by_cases h : nd_ = 1
    ·subst h; rfl
    ·rw [decide_eq_false h, beq_eq_false_iff_ne]; omega
   go_upto_region 4 with fail
   refine wp_region_lit ?_; refine zy 1 ?_; refine wpList_nil ?_; go_upto_region 9 with fail
   refine wp_region_lit ?_; refine zy 1 ?_; refine je (enters_of Tryz.func87 (by kernel_rfl) rfl) (c := Wa l i fl b_rd a i1 f1 _ rd hl hi HT1.out) (h := ?_); rintro e wn ⟨rfl, rd2, ze⟩; have zf := B.size; have zg := ze.size; replace B := qV.below B ze (by omega) B.size; replace r2 := r2.of_eq (ze.block _ r2.lt (by omega)); replace t5 := t5.of_eq (ze.block _ t5.lt (by omega)); replace od := od.chg ze (by omega); clear rd; have rd := rd2; clear rd2; rw [hna]; refine ⟨_, rfl, ?_⟩; simp only [zo]; refine zy 1 ?_; refine je (enters_of Tryz.func87 (by kernel_rfl) rfl) (c := Wa l i1 f1 b_rd b i2 f2 _ rd hl m1 HT2.out) (h := ?_); rintro e wn ⟨rfl, rd2, ze⟩; have zf := B.size; have zg := ze.size; replace B := qV.below B ze (by omega) B.size; replace r2 := r2.of_eq (ze.block _ r2.lt (by omega)); replace t5 := t5.of_eq (ze.block _ t5.lt (by omega))
   replace od := od.chg ze (by omega); clear rd; have rd := rd2; clear rd2; rw [hnb]; refine ⟨_, rfl, ?_⟩; simp only [zo]; refine zy 1 ?_
   (refine yg (t := 30) rfl _ _ rfl _ 1 rfl _ rfl t5 rfl (qG B (by omega) ?_); clear t5 B; intro wn t5 ze zf zg B; replace od := od.chg ze (by omega); (try replace r2 := r2.of_eq (ze.block _ r2.lt (by omega))); (try replace rd := rd.of_eq (ze.block _ rd.lt (by omega))); simp only [zo])
   refine zy 1 ?_
   (refine yg (t := 30) rfl _ _ rfl _ 2 rfl _ rfl t5 rfl (qG B (by omega) ?_); clear t5 B; intro wn t5 ze zf zg B; replace od := od.chg ze (by omega); (try replace r2 := r2.of_eq (ze.block _ r2.lt (by omega))); (try replace rd := rd.of_eq (ze.block _ rd.lt (by omega))); simp only [zo])
   refine wpList_nil ?_; replace t5 : zK 30 _ b_t5 (jE (.slice ap P.length cp) ⟨P, (na_ : Int), (nb_ : Int), Px.zero, false, 0⟩) := t5; go_upto_region 10 with fail
   refine wp_region_lit ?_; refine zy 1 ?_; refine je (enters_of Tryz.func88 (by kernel_rfl) rfl) (c := Qg l i2 f2 b_rd 4 4 c i3 f3 _ rd hl m2 (by omega) rfl HT3.out) (h := ?_); rintro e wn ⟨rfl, rd2, ze⟩; have zf := B.size; have zg := ze.size; replace B := qV.below B ze (by omega) B.size; replace r2 := r2.of_eq (ze.block _ r2.lt (by omega)); replace t5 := t5.of_eq (ze.block _ t5.lt (by omega)); replace od := od.chg ze (by omega); clear rd; have rd := rd2; clear rd2; refine ⟨_, rfl, ?_⟩; simp only [zo]; refine zy 1 ?_; refine wpList_nil ?_; go_upto_region 11 with fail
   refine wp_region_lit ?_; refine zy 1 ?_; refine je (enters_of Tryz.func87 (by kernel_rfl) rfl) (c := Xv l i3 f3 b_rd d i4 f4 _ rd hl m3 HT4.out) (h := ?_); rintro e wn ⟨rfl, rd2, ze⟩; have zf := B.size; have zg := ze.size; replace B := qV.below B ze (by omega) B.size; replace r2 := r2.of_eq (ze.block _ r2.lt (by omega)); replace t5 := t5.of_eq (ze.block _ t5.lt (by omega)); replace od := od.chg ze (by omega); clear rd; have rd := rd2; clear rd2; rw [hnd]; refine ⟨_, rfl, ?_⟩; simp only [zo]; refine zy 2 ?_
   (refine wE (t := 30) rfl _ _ rfl _ 7 rfl _ rfl t5 rfl (qG B (by omega) ?_); clear t5 B; intro wn t5 ze zf zg B; replace od := od.chg ze (by omega); (try replace r2 := r2.of_eq (ze.block _ r2.lt (by omega))); (try replace rd := rd.of_eq (ze.block _ rd.lt (by omega))); simp only [zo])
   refine wpList_nil ?_; replace t5 : zK 30 _ b_t5 (jE (.slice ap P.length cp) ⟨P, (na_ : Int), (nb_ : Int), Px.zero, decide (nd_ = 1), 0⟩) := t5; go_upto_region 12 with fail
   refine wp_region_lit ?_; refine zy 1 ?_; refine je (enters_of Tryz.func87 (by kernel_rfl) rfl) (c := Xw l i4 f4 b_rd e i5 f5 _ rd hl m4 HT5.out) (h := ?_); rintro e wn ⟨rfl, rd2, ze⟩; have zf := B.size; have zg := ze.size; replace B := qV.below B ze (by omega) B.size; replace r2 := r2.of_eq (ze.block _ r2.lt (by omega)); replace t5 := t5.of_eq (ze.block _ t5.lt (by omega)); replace od := od.chg ze (by omega); clear rd; have rd := rd2; clear rd2; rw [hne]; refine ⟨_, rfl, ?_⟩; simp only [zo]; refine zy 1 ?_
   (refine yg (t := 30) rfl _ _ rfl _ 8 rfl _ rfl t5 rfl (qG B (by omega) ?_); clear t5 B; intro wn t5 ze zf zg B; replace od := od.chg ze (by omega); (try replace r2 := r2.of_eq (ze.block _ r2.lt (by omega))); (try replace rd := rd.of_eq (ze.block _ rd.lt (by omega))); simp only [zo])
   refine wpList_nil ?_; replace t5 : zK 30 _ b_t5 (jE (.slice ap P.length cp) ⟨P, (na_ : Int), (nb_ : Int), Px.zero, decide (nd_ = 1), (ne_ : Int)⟩) := t5; go_upto_region 13 with fail
   refine wp_region_lit ?_; refine zy 1 ?_; refine je (enters_of Tryz.func89 (by kernel_rfl) rfl) (c := zap l i5 f5 b_rd _ rd) (h := ?_); rintro e wn ⟨rfl, za⟩; have zf := B.size; have zg := za.size; replace B := B.trans (za.mono B.size)
   (try replace r2 := r2.below za)
   (try replace t5 := t5.below za)
   (try replace od := od.below za)
   refine ⟨_, rfl, ?_⟩; simp only [zo]; refine wpList_nil ?_; by_cases hsh : l.length < 13 + 7 * k
   ·have h5 : f5 = true := HTL.out.bad hsh
    subst h5; have hS := HE.out; rw [Jj (by rw [HN.out]; exact hsh)] at hS
    injection hS with e1 e2
    subst e1 e2; clear od; go_upto_region 14 with fail
    refine wp_region_lit ?_
    (refine qv rfl (.agg #[.slice none 0 0, .int .i64 0, .int .i64 0, .int .u8 0, .int .u8 0, .int .u8 0, .int .u8 0, .bool false, .int .i64 0]) (by kernel_rfl) ?_; simp only [zo])
    (refine zq (t := 30) rfl _ _ rfl _ rfl _ rfl r2 (by kernel_rfl) rfl (by simp [jE, Value.oneCell']) (qG B (by omega) ?_); clear r2 B; intro wn r2 ze zf zg B; (try replace t5 := t5.of_eq (ze.block _ t5.lt (by omega))); simp only [zo])
    refine zy 1 ?_; refine wpList_nil ?_; first | (refine bodyPost_ret (zV (t := 30) rfl _ _ (b_r2) rfl _ rfl r2 Tryz.isAgg30 (by kernel_rfl)) rfl ?_) | (go_step; refine bodyPost_ret (zV (t := 30) rfl _ _ (b_r2) rfl _ rfl r2 Tryz.isAgg30 (by kernel_rfl)) rfl ?_) | (go_step; go_step; refine bodyPost_ret (zV (t := 30) rfl _ _ (b_r2) rfl _ rfl r2 Tryz.isAgg30 (by kernel_rfl)) rfl ?_) | (go_step; go_step; go_step; refine bodyPost_ret (zV (t := 30) rfl _ _ (b_r2) rfl _ rfl r2 Tryz.isAgg30 (by kernel_rfl)) rfl ?_) | (go_step; go_step; go_step; go_step; refine bodyPost_ret (zV (t := 30) rfl _ _ (b_r2) rfl _ rfl r2 Tryz.isAgg30 (by kernel_rfl)) rfl ?_) | (go_step; go_step; go_step; go_step; go_step; refine bodyPost_ret (zV (t := 30) rfl _ _ (b_r2) rfl _ rfl r2 Tryz.isAgg30 (by kernel_rfl)) rfl ?_) | (go_step; go_step; go_step; go_step; go_step; go_step; refine bodyPost_ret (zV (t := 30) rfl _ _ (b_r2) rfl _ rfl r2 Tryz.isAgg30 (by kernel_rfl)) rfl ?_) | (go_step; go_step; go_step; go_step; go_step; go_step; go_step; refine bodyPost_ret (zV (t := 30) rfl _ _ (b_r2) rfl _ rfl r2 Tryz.isAgg30 (by kernel_rfl)) rfl ?_)
    exact ⟨.slice none 0 0, rfl, (jb.nil (E := j3) 0 wn).rs, B⟩
   ·obtain ⟨h5, ea, eb, ec, ed, ee⟩ := HTL.out.good (by omega)
    simp only at h5; subst h5; have hcl : c.length = 4 := by rw [ec]; exact zdF (by omega)
    obtain ⟨g0, hg0⟩ : ∃ n, (c.getD 0 0).toNat = n := ⟨_, rfl⟩; obtain ⟨g1, hg1⟩ : ∃ n, (c.getD 1 0).toNat = n := ⟨_, rfl⟩; obtain ⟨g2, hg2⟩ : ∃ n, (c.getD 2 0).toNat = n := ⟨_, rfl⟩; obtain ⟨g3, hg3⟩ : ∃ n, (c.getD 3 0).toNat = n := ⟨_, rfl⟩; have hcc : ∀ j, j < 4 → c.getD j 0 = l.getD (5 + 7 * k + j) 0 := fun j hj => by
     rw [List.getD_eq_getElem?_getD, List.getD_eq_getElem?_getD, ec, zaa hj]
    have hPar : JJ l = ⟨P, (na_ : Int), (nb_ : Int), ⟨(g0 : Int), (g1 : Int), (g2 : Int), (g3 : Int)⟩, decide (nd_ = 1), (ne_ : Int)⟩ := by
     have hk := HK.out; rw [VW l k (by omega)] at hk
     injection hk with hP _
     unfold JJ; rw [HN.out]; unfold pkS VO; rw [hP, ← ea, ← eb, ← ed, ← ee, hna, hnb, hnd, hne, ← hcc 1 (by omega), ← hcc 2 (by omega), ← hcc 3 (by omega), hg1, hg2, hg3]; have h0 := hcc 0 (by omega); rw [Nat.add_zero] at h0; rw [← h0, hg0]
    have okC : (⟨(g0 : Int), (g1 : Int), (g2 : Int), (g3 : Int)⟩ : Px).ok := by
     have := zeQ l (5 + 7 * uc l); have e9 : (JJ l).col = VO l (5 + 7 * uc l) := rfl; rw [← e9, hPar] at this; exact this
    have HPAR := Lib.hid hPar; have OKC := Lib.hid okC; have HG0 := Lib.hid hg0; have HG1 := Lib.hid hg1; have HG2 := Lib.hid hg2; have HG3 := Lib.hid hg3; clear hPar okC hg0 hg1 hg2 hg3 ea eb ec ed ee hcc; have hPs : P.length ≤ 255 := by omega
    go_upto_region 15 with fail
    try have lx_r2 := r2.lt
    try have lx_t5 := t5.lt
    try have lx_od := od.lt
    refine zJ 10 [] (by kernel_rfl) (by kernel_rfl) (by kernel_rfl) ?_
    rotate_left 0
    simp only [jZ, Nat.reduceAdd]; refine ub 10 ?_; repeat (first | go_big_quiet_skip | (go_big_quiet_want; first | ((first | refine ki rfl c rfl _ rfl 0 g0 (by omega) (by first | rfl | omega) HG0.out ?_ | refine ki rfl c rfl _ rfl 1 g1 (by omega) (by first | rfl | omega) HG1.out ?_ | refine ki rfl c rfl _ rfl 2 g2 (by omega) (by first | rfl | omega) HG2.out ?_ | refine ki rfl c rfl _ rfl 3 g3 (by omega) (by first | rfl | omega) HG3.out ?_ | refine qB ?_ | refine qC ?_); simp only [zo]; go_big_quiet_on) | (go_big_quiet_op; go_big_quiet_on)))
    refine wpQuiet_nil ?_; refine qi ?_; intro wn za hE; have zf := B.size; have zg := za.size; replace B := B.trans (za.mono B.size)
    (try replace r2 := r2.below za)
    (try replace t5 := t5.below za)
    (try replace od := od.below za)
    clear hE; try simp only [List.drop_succ_cons, List.drop_zero]
    (refine Yq rfl _ _ rfl _ rfl ⟨(g0 : Int), (g1 : Int), (g2 : Int), (g3 : Int)⟩ rfl t5 (qG B (by omega) ?_); clear t5 B; intro wn t5 ze zf zg B; replace od := od.chg ze (by omega); (try replace r2 := r2.of_eq (ze.block _ r2.lt (by omega))); simp only [zo])
    refine wpList_nil ?_; refine zL.normal ?_; obtain ⟨s1, hs1⟩ : ∃ s : jd, s = ⟨P, (na_ : Int), (nb_ : Int), ⟨(g0 : Int), (g1 : Int), (g2 : Int), (g3 : Int)⟩, decide (nd_ = 1), (ne_ : Int)⟩ := ⟨_, rfl⟩; replace t5 : zK 30 wn b_t5 (jE (.slice ap P.length cp) s1) := by rw [hs1]; exact t5
    have hsp : s1.pts = P := by rw [hs1]
    have hsc : s1.col.ok := by rw [hs1]; exact OKC.out
    rw [← hs1] at HPAR; have rsP : xp j3 (.slice ap P.length cp) s1.pts wn := by rw [hsp]; exact od.rs
    have hsn : s1.pts.length ≤ 17592186044416 := by rw [hsp]; omega
    obtain ⟨Lb, hLb⟩ : ∃ b, ys s1 = b := ⟨_, rfl⟩; have HLB := Lib.hid hLb; have HSC := Lib.hid hsc; clear hs1 hLb hsc; have hpl : ¬ l.length < 13 + 7 * uc l := by rw [HN.out]; exact hsh
    by_cases heq : Lb = l
    ·have hz : (!decide (Lb = l)) = false := by rw [decide_eq_true heq]; rfl
     have hS := HE.out; rw [zeV hpl (by rw [HPAR.out, HLB.out]; exact heq), HPAR.out] at hS
     injection hS with e1 e2
     subst e1 e2; go_upto_region 16 with fail
     refine wp_region_lit ?_; refine j4 1 ?_
     repeat (first | go_big_quiet_skip | (go_big_quiet_want; first | ((first | refine vC rfl Lb l rfl rfl false hz ?_ | refine qB ?_ | refine qC ?_); simp only [zo]; go_big_quiet_on) | (go_big_quiet_op; go_big_quiet_on)))
     refine wpQuiet_nil ?_; refine je (enters_of Tryz.func33 (by kernel_rfl) rfl) (c := Qy _ s1 Lb _ rsP hsn HSC.out HLB.out) (h := ?_); rintro e wn ⟨rfl, za⟩; have zf := B.size; have zg := za.size; replace B := B.trans (za.mono B.size)
     (try replace r2 := r2.below za)
     (try replace t5 := t5.below za)
     (try replace rsP := rsP.below za)
     (try replace od := od.below za)
     refine ⟨_, rfl, ?_⟩; simp only [zo]; refine j4 2 ?_; repeat (first | go_big_quiet_skip | (go_big_quiet_want; first | ((first | refine vC rfl Lb l rfl rfl false hz ?_ | refine qB ?_ | refine qC ?_); simp only [zo]; go_big_quiet_on) | (go_big_quiet_op; go_big_quiet_on)))
     refine wpQuiet_nil ?_; refine wpList_nil ?_; have HODP := Lib.hid od; have hlr2 := r2.lt; go_upto_region 18 with fail
     refine wp_region_lit ?_; refine zy 1 ?_
     (refine zq (t := 30) rfl _ _ rfl _ rfl _ rfl r2 (by kernel_rfl) rfl (by simp [jE, Value.oneCell']) (qG B (by omega) ?_); clear r2 B; intro wn r2 ze zf zg B; replace rsP : xp j3 (.slice ap P.length cp) s1.pts wn := (by rw [hsp]; exact (jb.chg HODP.out ze (by omega)).rs); (try replace t5 := t5.of_eq (ze.block _ t5.lt (by omega))); simp only [zo])
     refine zy 1 ?_; refine wpList_nil ?_; first | (refine bodyPost_ret (zV (t := 30) rfl _ _ (b_r2) rfl _ rfl r2 Tryz.isAgg30 (by kernel_rfl)) rfl ?_) | (go_step; refine bodyPost_ret (zV (t := 30) rfl _ _ (b_r2) rfl _ rfl r2 Tryz.isAgg30 (by kernel_rfl)) rfl ?_) | (go_step; go_step; refine bodyPost_ret (zV (t := 30) rfl _ _ (b_r2) rfl _ rfl r2 Tryz.isAgg30 (by kernel_rfl)) rfl ?_) | (go_step; go_step; go_step; refine bodyPost_ret (zV (t := 30) rfl _ _ (b_r2) rfl _ rfl r2 Tryz.isAgg30 (by kernel_rfl)) rfl ?_) | (go_step; go_step; go_step; go_step; refine bodyPost_ret (zV (t := 30) rfl _ _ (b_r2) rfl _ rfl r2 Tryz.isAgg30 (by kernel_rfl)) rfl ?_) | (go_step; go_step; go_step; go_step; go_step; refine bodyPost_ret (zV (t := 30) rfl _ _ (b_r2) rfl _ rfl r2 Tryz.isAgg30 (by kernel_rfl)) rfl ?_) | (go_step; go_step; go_step; go_step; go_step; go_step; refine bodyPost_ret (zV (t := 30) rfl _ _ (b_r2) rfl _ rfl r2 Tryz.isAgg30 (by kernel_rfl)) rfl ?_) | (go_step; go_step; go_step; go_step; go_step; go_step; go_step; refine bodyPost_ret (zV (t := 30) rfl _ _ (b_r2) rfl _ rfl r2 Tryz.isAgg30 (by kernel_rfl)) rfl ?_)
     exact ⟨_, rfl, rsP, B⟩
    ·have hz : (!decide (Lb = l)) = true := by rw [decide_eq_false heq]; rfl
     have hS := HE.out; rw [za6 hpl (by rw [HPAR.out, HLB.out]; exact heq)] at hS
     injection hS with e1 e2
     subst e1 e2; go_upto_region 16 with fail
     refine wp_region_lit ?_; refine j4 1 ?_
     repeat (first | go_big_quiet_skip | (go_big_quiet_want; first | ((first | refine vC rfl Lb l rfl rfl true hz ?_ | refine qB ?_ | refine qC ?_); simp only [zo]; go_big_quiet_on) | (go_big_quiet_op; go_big_quiet_on)))
     refine wpQuiet_nil ?_; refine je (enters_of Tryz.func33 (by kernel_rfl) rfl) (c := Qy _ s1 Lb _ rsP hsn HSC.out HLB.out) (h := ?_); rintro e wn ⟨rfl, za⟩; have zf := B.size; have zg := za.size; replace B := B.trans (za.mono B.size)
     (try replace r2 := r2.below za)
     refine ⟨_, rfl, ?_⟩; simp only [zo]; refine j4 2 ?_; repeat (first | go_big_quiet_skip | (go_big_quiet_want; first | ((first | refine vC rfl Lb l rfl rfl true hz ?_ | refine qB ?_ | refine qC ?_); simp only [zo]; go_big_quiet_on) | (go_big_quiet_op; go_big_quiet_on)))
     refine wpQuiet_nil ?_; refine wpList_nil ?_; go_upto_region 17 with fail
     refine wp_region_lit ?_
     (refine qv rfl (.agg #[.slice none 0 0, .int .i64 0, .int .i64 0, .int .u8 0, .int .u8 0, .int .u8 0, .int .u8 0, .bool false, .int .i64 0]) (by kernel_rfl) ?_; simp only [zo])
     (refine zq (t := 30) rfl _ _ rfl _ rfl _ rfl r2 (by kernel_rfl) rfl (by simp [jE, Value.oneCell']) (qG B (by omega) ?_); clear r2 B; intro wn r2 ze zf zg B; simp only [zo])
     refine zy 1 ?_; refine wpList_nil ?_; first | (refine bodyPost_ret (zV (t := 30) rfl _ _ (b_r2) rfl _ rfl r2 Tryz.isAgg30 (by kernel_rfl)) rfl ?_) | (go_step; refine bodyPost_ret (zV (t := 30) rfl _ _ (b_r2) rfl _ rfl r2 Tryz.isAgg30 (by kernel_rfl)) rfl ?_) | (go_step; go_step; refine bodyPost_ret (zV (t := 30) rfl _ _ (b_r2) rfl _ rfl r2 Tryz.isAgg30 (by kernel_rfl)) rfl ?_) | (go_step; go_step; go_step; refine bodyPost_ret (zV (t := 30) rfl _ _ (b_r2) rfl _ rfl r2 Tryz.isAgg30 (by kernel_rfl)) rfl ?_) | (go_step; go_step; go_step; go_step; refine bodyPost_ret (zV (t := 30) rfl _ _ (b_r2) rfl _ rfl r2 Tryz.isAgg30 (by kernel_rfl)) rfl ?_) | (go_step; go_step; go_step; go_step; go_step; refine bodyPost_ret (zV (t := 30) rfl _ _ (b_r2) rfl _ rfl r2 Tryz.isAgg30 (by kernel_rfl)) rfl ?_) | (go_step; go_step; go_step; go_step; go_step; go_step; refine bodyPost_ret (zV (t := 30) rfl _ _ (b_r2) rfl _ rfl r2 Tryz.isAgg30 (by kernel_rfl)) rfl ?_) | (go_step; go_step; go_step; go_step; go_step; go_step; go_step; refine bodyPost_ret (zV (t := 30) rfl _ _ (b_r2) rfl _ rfl r2 Tryz.isAgg30 (by kernel_rfl)) rfl ?_)
     exact ⟨.slice none 0 0, rfl, (jb.nil (E := j3) 0 wn).rs, B⟩
end Go.Proofs.YtepelndbbhdofaaGreatDoor
/- Contract of the reference's Split. -/
namespace Go.Proofs.YtepelndbbhdofaaGreatDoor
open Go.RowKit Go.Shelf Pl
set_option linter.unusedVariables false
set_option linter.unusedSimpArgs false
set_option maxRecDepth 20000
def prC (v : Value) (s : jd) (u : Value) (t : jd) (n : Int) : Array Value := #[v, .int .i64 s.rad, .int .i64 s.spa, .int .u8 s.col.r, .int .u8 s.col.g, .int .u8 s.col.b, .int .u8 s.col.a, .bool s.era, .int .i64 s.pha, u, .int .i64 t.rad, .int .i64 t.spa, .int .u8 t.col.r, .int .u8 t.col.g, .int .u8 t.col.b, .int .u8 t.col.a, .bool t.era, .int .i64 t.pha, .int .i64 n]
def jd.none : jd := ⟨[], 0, 0, Px.zero, false, 0⟩
/- Contracts of Shift of package stroke and of its reference. -/
/-! ### Points written in place in a row of the call's own -/
def shK (X Y : Int) (l : List Sp) (k : Nat) : List Sp := (l.take k).map (shP X Y) ++ l.drop k
/- Contract of Paste of the reference. -/
end Go.Proofs.YtepelndbbhdofaaGreatDoor
/- Paste of both packages, whether the rectangle fits or not. -/
namespace Go.Proofs.YtepelndbbhdofaaGreatDoor
open Go.RowKit Go.Shelf Pl
set_option linter.unusedVariables false
set_option linter.unusedSimpArgs false
theorem zbO (v : Value) (ls : List TA) (c : Rc) (u : Value) (L : List Px) (w : World) (h : RS v ls w) (tk : qN ls) (hn : ls.length ≤ maxLen) (hu : xp kI u L w) (hLn : L.length ≤ maxLen) (okL : OkL L) : Calls Tryz.prog 77 #[.agg #[v], .agg (xA c u)] w fun e w' => ∃ a cp, e = .returned (.tuple #[.agg #[.slice a (vq c L ls).length cp], .int .i64 (zAC c L ls)]) ∧ RS (.slice a (vq c L ls).length cp) (vq c L ls) w' ∧ Below w.heap.size w w' := by
 obtain ⟨ad, cu, rfl, hcu⟩ := hu.len
 by_cases hV : j9 c = true
 ·by_cases hA : (L.length : Int) = vL c
  ·have e1 : vq c L ls = if jL c = 0 then xQ (xP c L (qc ls) (yY c)) else [] := if_pos ⟨hV, hA⟩
   have e2 : zAC c L ls = if jL c = 0 then kx (xP c L (qc ls) (yY c)) else jL c := if_pos ⟨hV, hA⟩
   by_cases hF : jL c = 0
   ·rw [e1, e2, if_pos hF, if_pos hF]
    have hL : L.length = areaN c := by have := QG (yM hF); omega
    exact Vo v ls c _ L w h tk hn hF hu hL okL
   ·rw [e1, e2, if_neg hF, if_neg hF]
    refine (YF v ls c ad L.length cu w h hLn hV hA.symm _ rfl hF).mono fun e w' ⟨he, hb⟩ => ?_
    exact ⟨none, 0, he, RS.nil _, hb⟩
  ·have e1 : vq c L ls = [] := if_neg (fun e => hA e.2)
   have e2 : zAC c L ls = 1 := if_neg (fun e => hA e.2); rw [e1, e2]; refine (YH v ls c ad L.length cu w h hLn hV _ rfl hA).mono fun e w' ⟨he, hb⟩ => ?_
   exact ⟨none, 0, he, RS.nil _, hb⟩
 ·have e1 : vq c L ls = [] := if_neg (fun e => hV e.1)
  have e2 : zAC c L ls = 1 := if_neg (fun e => hV e.1); rw [e1, e2]; refine (YG v ls c ad L.length cu w h hLn (by simpa using hV)).mono fun e w' ⟨he, hb⟩ => ?_
  exact ⟨none, 0, he, RS.nil _, hb⟩
theorem zbP (v : Value) (ls ks : List TA) (E : Int) (c : Rc) (u : Value) (L : List Px) (w : World) (h : RS v ls w) (tk : qN ls) (hn : ls.length ≤ maxLen) (hu : xp kI u L w) (hLn : L.length ≤ maxLen) (okL : OkL L) (e1 : vq c L ls = ks) (e2 : zAC c L ls = E) : Calls Tryz.prog 77 #[.agg #[v], .agg (xA c u)] w fun e w' => ∃ a cp, e = .returned (.tuple #[.agg #[.slice a ks.length cp], .int .i64 E]) ∧ RS (.slice a ks.length cp) ks w' ∧ Below w.heap.size w w' := by
 subst e1 e2
 exact zbO v ls c u L w h tk hn hu hLn okL
end Go.Proofs.YtepelndbbhdofaaGreatDoor
/- Painting strokes: regions that draw their order within a round; an image that the call owns; the two closures. -/
namespace Go.Proofs.YtepelndbbhdofaaGreatDoor
open Go.RowKit Go.Shelf Pl
set_option linter.unusedVariables false
set_option linter.unusedSimpArgs false
set_option maxRecDepth 20000
theorem Vl (K : Act → World → Prop) : zL (qw K) = qw K := by
 funext e a w
 cases e <;> rfl
section
variable {P : Program} {n0 r : Nat}
/-- A region that draws its order, within a round: as wp_region_RL. -/
theorem KI {id : Nat} {Q : Exit → Act → World → Prop} {a : Act} {w : World} {l : List Oper} (hd : wU l = true) (n : Nat) (S : List (Nat × jQ)) (hm : P.follows .mixedOrders = true) (hB : kC .any l.toArray n = true) (hS0 : V4 l.toArray (S.map (·.1)) = true)
  (h : vY P .any l.toArray (qw fun a w => Q .normal a w) (fun w' => ∃ u, w' = ov w u) (Xg S) (fun E a' => ∀ w', Below w.heap.size w w' → (∀ j, E j w') → wpList P l.toArray (zL (qw fun a w => Q .normal a w)) (l.drop n) a' w') (l.take n) 0 (fun _ _ => True) a) : (Code.region id l.toArray true).wpIn (Fence.wide.inRound r) n0 P Q a w := by
 have hn : n ≤ l.length := by
  have hB' := hB; simp only [kC, Bool.and_eq_true, decide_eq_true_eq] at hB'
  simpa using hB'.1.1.1
 have hlen : (l.take n).length = n := by simp; omega
 have h' := h fun j hj => by
  rw [hlen] at hj; simp [hj]
 rw [hlen, ← List.range_eq_range'] at h'
 have hS := Jq hS0
 simp only [kC, Bool.and_eq_true, decide_eq_true_eq] at hB
 obtain ⟨⟨⟨hn, hR⟩, htl⟩, hseq⟩ := hB
 refine za8 hm hd ?_
 rw [← Vl]
 have hdl : (l.drop n).length = l.toArray.size - n := by simp
 have := JC (P := P) (Q := qw fun a w => Q .normal a w) (md := .any) (C := fun w' => ∃ u, w' = ov w u) (S := Xg S) (g := (l.drop n).length) hR htl (fun w1 w2 ⟨u, hu⟩ hb => by
   subst hu; exact ⟨w2, zG ((qS w u).trans (hb.mono (qS w u).size))⟩) hS
  (L := fun E a' => ∀ w', Below w.heap.size w w' → (∀ j, E j w') → wpList P l.toArray (zL (qw fun a w => Q .normal a w)) (l.drop n) a' w')
  (fun listed a' E w' zf hall hL ⟨u, hu⟩ hE => by
   have hT : listed = Array.replicate n true ++ Array.replicate (l.toArray.size - n) false := by
    apply Array.ext_getElem?
    intro j; rw [Array.getElem?_append, Array.size_replicate]; by_cases hjs : j < l.toArray.size
    ·have hjl : j < listed.size := by omega
     have h1 := hall j hjs; rw [Array.getD_eq_getD_getElem?, Array.getElem?_eq_getElem hjl, Option.getD_some] at h1; rw [Array.getElem?_eq_getElem hjl, h1]; by_cases hj : j < n
     ·rw [if_pos hj, Array.getElem?_replicate, if_pos hj, decide_eq_true hj]
     ·rw [if_neg hj, Array.getElem?_replicate, if_pos (by omega), decide_eq_false hj]
    ·rw [Array.getElem?_eq_none (by omega), if_neg (by omega), Array.getElem?_replicate, if_neg (by omega)]
   rw [hT]; refine wpAny_of_seq (l.drop n) n _ a' w' (fun j => by simp [List.getElem?_drop]) (by rw [hdl]; exact hseq) ?_
   subst hu; exact hL _ (qS w u) hE)
  n (List.range n) (Array.replicate l.toArray.size false) a (fun _ _ => True) w.drew (by simp) List.pairwise_lt_range (by simp) (fun k => by
   rw [List.mem_range, decide_eq_true_eq]; refine ⟨fun hk => ⟨by omega, hk, getD_in (by rw [Array.size_replicate]; omega) (getD_replicate_false _ _)⟩, fun hk => hk.2.1⟩)
  (fun t hts _ => getD_in (by rw [Array.size_replicate]; exact hts) (getD_replicate_false _ _)) (fun j oj _ hl => (by rw [getD_replicate_false] at hl; cases hl))
  ⟨w.drew, zG ((Below.refl _ _).drew)⟩ (fun _ => trivial) (fun _ _ _ _ _ => trivial) h'
 rw [hdl, show n + (l.toArray.size - n) = l.toArray.size by omega] at this
 exact this
end
/-- Two results that are blocks. -/
theorem xD {t u : TypeId} {fn : Func} {p r : Tmp} (h : fn.results = #[.cell p t, .cell r u]) (tmps : Array Value) (w : World) (b c : Nat) (hp : tmps.getD p undef = .pointer (some ⟨b, 0, none⟩)) (hr : tmps.getD r undef = .pointer (some ⟨c, 0, none⟩)) {cs : Array Value} {v : Value} (ht : zK t w b cs) (hu : (Instr.loadAt u (.pointer (some ⟨c, 0, none⟩))).run Tryz.prog w = .ok v w) (hagg : ∀ w : World, (isAgg t).run Tryz.prog w = .ok true w) (zf : (Tryz.prog.info? t).map (·.size) = some cs.size) :
  (results fn tmps).run Tryz.prog w = .ok (.tuple #[.agg cs, v]) w := by
 have hl := zv ht hagg zf
 simp only [Instr.loadAt, Instr.sureAddr, Sem.run_bind, Sem.run_pure, Result.andThen_ok] at hl hu
 unfold results
 rw [h]
 have hp' : tmps[p]?.getD undef = .pointer (some ⟨b, 0, none⟩) := by simpa using hp
 have hr' : tmps[r]?.getD undef = .pointer (some ⟨c, 0, none⟩) := by simpa using hr
 simp [hp', hr', Instr.sureAddr, asAddr, hl, hu, Sem.run_bind, Sem.run_pure, Result.andThen_ok]
/-- Tiles beside what is no block of tiles. -/
theorem RS.own3 {v : Value} {ls : List TA} {W W' : World} {row : Option Nat} (h : RS v ls W) (hg : W.grownBy W' row) (hr : ∀ r, row = some r → (∃ o : Obj, W.heap[r]? = some o ∧ o.isCells = false) ∨ ∃ cs t, W.heap[r]? = some (.cells cs t (0, 0)) ∧ cs.size = 3) : RS v ls W' := by
 rcases h with h | ⟨g, o, c, e, hcap, sc⟩
 ·exact .inl h
 ·refine .inr ⟨g, o, c, e, hcap, fun hn => (sc hn).of_eq (hg.block g (sc hn).lt fun hg => ?_)⟩
  rcases hr g hg.symm with ⟨x, hx, hc⟩ | ⟨cs, t, hx, hs⟩
  ·have h0 := (sc hn).2 0 hn 0 (by omega)
   have hs : ∃ v, (xX (aT ls 0))[0]? = some v := ⟨_, Array.getElem?_eq_getElem (by rw [zS]; omega)⟩
   obtain ⟨v, hv⟩ := hs; rw [hv] at h0; have := QP h0 x hx; rw [hc] at this; cases this
  ·have h1 := (sc hn).2 0 hn 257 (by omega)
   rw [cell_of_row W g _ cs _ (0, 0) hx] at h1; have h2 : (xX (aT ls 0))[257]? ≠ none := by
    rw [Ne, Array.getElem?_eq_none_iff, zS]; omega
   rw [← h1, Ne, Array.getElem?_eq_none_iff] at h2; omega
set_option maxHeartbeats 2000000 in
/-- Image: its pixels are a row that the call made. -/
theorem YA (v : Value) (ls : List TA) (c : Rc) (w : World) (h : RS v ls w) (tk : qN ls) (hv : z2 ls = true) (hE : jL c = 0) : Calls Tryz.prog 76 #[.agg #[v], .agg (jV c)] w fun e w' => ∃ cb, w.heap.size ≤ cb ∧ e = .returned (.tuple #[.agg (xA c (.slice (some ⟨cb, 0, none⟩) (areaN c) (areaN c))), .int .i64 0]) ∧ jz kI w' cb (QY c ls) ∧ Below w.heap.size w w' := by
 have B := Below.refl w.heap.size w
 have hn : ls.length ≤ maxLen := by have := (j1.1 hv).1; unfold maxLen; omega
 have HIM := Lib.hid (show zfd c (qc ls) = QY c ls from by rw [xy hv]; exact zcy (yM hE) hv)
 obtain ⟨a', c', hT⟩ := Qj v ls w h tk hn
 have HR0 := Lib.hid (hT w (Below.refl _ _)).2
 have HT := Lib.hid hT
 clear hT
 obtain ⟨a, cp, rfl, hc⟩ := h.len
 have TK := Lib.hid (yL tk)
 have HP := Lib.hid (zct ls)
 have hfl := yt ls
 have FT := Lib.hid (yM hE)
 obtain ⟨an1, an2⟩ := Qm FT.out
 have AR : Hid (∀ w, Calls Tryz.prog 125 #[.agg #[.int .i64 c.x0, .int .i64 c.y0, .int .i64 c.x1, .int .i64 c.y1]] w fun e w' => e = .returned (.int .i64 (areaN c : Int)) ∧ Below w.heap.size w w') := Lib.hid fun w => by
  have := zbu c w FT.out.valid; rw [QG FT.out] at this; exact this
 have FE : Hid (∀ w, Calls Tryz.prog 124 #[.agg #[.int .i64 c.x0, .int .i64 c.y0, .int .i64 c.x1, .int .i64 c.y1]] w fun e w' => e = .returned (.int .i64 0) ∧ Below w.heap.size w w') := Lib.hid fun w => by
  have := zbU c w; rw [hE] at this; exact this
 have eg := enters_of Tryz.func127 (by kernel_rfl) rfl
 clear h tk hE hv
 show Calls Tryz.prog 76 #[.agg #[.slice a ls.length cp], .agg #[.int .i64 c.x0, .int .i64 c.y0, .int .i64 c.x1, .int .i64 c.y1]] w _
 go_enter Tryz.func76, Tryz.ntmps76
 go_upto_region 4 with (first | (go_at_call 124; refine (FE.out _).mono ?_; rintro e wn ⟨rfl, za⟩; have zf := B.size; have zg := za.size; replace B := B.trans (za.mono B.size); (try replace r1 := r1.below za); (try replace r0 := r0.below za); (try replace m4 := m4.below za); (try replace m7 := m7.below za); (try replace row := row.below za)) | (refine zp (t := 38) rfl _ rfl _ _ _ rfl (yi r0) (by rfl) ?_; simp only [zo]) | (have _ := r0; refine zr (t := 117) rfl _ (yz _ _ rfl) (zY B ?_); clear B; intro b_m4 wn zb zd m4 za zf zk B; (try have zh := r1.lt); (try replace r1 := r1.below (za.mono zb)); (try have zh := r0.lt); (try replace r0 := r0.below (za.mono zb)); (try have zh := m4.lt); (try replace m4 := m4.below (za.mono zb)); (try have zh := m7.lt); (try replace m7 := m7.below (za.mono zb)); (try have zh := row.lt); (try replace row := row.below (za.mono zb)); simp only [zo]) | (have _ := r1; refine zt (t := 38) rfl _ rfl _ rfl (zY B ?_); clear B; intro b_r0 wn zb zd r0 za zf zk B; (try have zh := r1.lt); (try replace r1 := r1.below (za.mono zb)); (try have zh := r0.lt); (try replace r0 := r0.below (za.mono zb)); (try have zh := m4.lt); (try replace m4 := m4.below (za.mono zb)); (try have zh := m7.lt); (try replace m7 := m7.below (za.mono zb)); (try have zh := row.lt); (try replace row := row.below (za.mono zb)); simp only [zo]) | (refine zt (t := 64) rfl _ rfl _ rfl (zY B ?_); clear B; intro b_r1 wn zb zd r1 za zf zk B; (try have zh := r1.lt); (try replace r1 := r1.below (za.mono zb)); (try have zh := r0.lt); (try replace r0 := r0.below (za.mono zb)); (try have zh := m4.lt); (try replace m4 := m4.below (za.mono zb)); (try have zh := m7.lt); (try replace m7 := m7.below (za.mono zb)); (try have zh := row.lt); (try replace row := row.below (za.mono zb)); simp only [zo]) | fail)
 have q1 : w.heap.size ≤ b_r1 := by omega
 have q2 : b_r1 < b_r0 := by omega
 have q3 : b_r0 < b_m4 := by omega
 have q4 := m4.lt
 go_cut [7] from 14 to 18 (fun s wx => ∃ b_m7 b_row, s = .pointer (some ⟨b_m7, 0, none⟩) ∧ zK 117 wx b_m7 (xA c (.slice (some ⟨b_row, 0, none⟩) (areaN c) (areaN c))) ∧ jz kI wx b_row (List.replicate (areaN c) Px.zero) ∧ Below w.heap.size w wx ∧ b_m4 < b_m7 ∧ b_m4 < b_row ∧ b_m7 ≠ b_row ∧ zK 64 wx b_r1 #[.slice a ls.length cp] ∧ zK 38 wx b_r0 (jV c) ∧ zK 117 wx b_m4 (xA Rc.zero (.slice none 0 0)))
 case first =>
  try have r1B := r1
  try have r0B := r0
  try have m4B := m4
  try have m7B := m7
  try have rowB := row
  refine yG 6 #[false, false, false, false, false, false, false] (by kernel_rfl) (by kernel_rfl) ?_; intro wn za; have hX := za; have zf := B.size; have zg := za.size; replace B := B.trans (za.mono B.size); try replace r1 := r1.below za
  try replace r0 := r0.below za
  try replace m4 := m4.below za
  try replace m7 := m7.below za
  try replace row := row.below za
  simp only [List.length_cons, List.length_nil, Nat.reduceAdd]; refine z1 0 rfl (by kernel_rfl) ⟨_, zG hX⟩ ?_; intro K hK; try simp only [zM]
  (first | (refine zn (t := 38) rfl _ _ _ rfl (fun w hw => yi (zB r0B w hw)) (by rfl) ?_; simp only [zo]; go_big_quiet_on) | (go_big_quiet_op; go_big_quiet_on))
  simp only [zo]; refine z1 1 rfl (by kernel_rfl) ⟨_, zG hX⟩ ?_; intro K hK; try simp only [zM]
  (first | (refine zn (t := 38) rfl _ _ _ rfl (fun w hw => yi (zB r0B w hw)) (by rfl) ?_; simp only [zo]; go_big_quiet_on) | (go_big_quiet_op; go_big_quiet_on))
  simp only [zo]; refine jK 2 5 rfl rfl (by kernel_rfl) rfl rfl (fun K hK => ?_) (fun K hK => ?_)
  ·skip
   try simp only [zM]
   go_simp
   go_at_call 125
   refine (AR.out _).mono ?_; rintro e wn ⟨rfl, za⟩; have zf := B.size; have zg := za.size; have hsx := hX.size; replace B := B.trans (za.mono B.size); replace hX := hX.trans (za.mono hX.size); try replace r1 := r1.below za
   try replace r0 := r0.below za
   try replace m4 := m4.below za
   try replace m7 := m7.below za
   try replace row := row.below za
   refine hK _ _ ⟨fun _ => ⟨_, zG hX⟩, ?_⟩; clear hK K; try simp only [zM]
   simp only [zo]; refine jK 3 5 rfl rfl (by kernel_rfl) rfl rfl (fun K hK => ?_) (fun K hK => ?_)
   ·skip
    try simp only [zM]
    refine ZE (E := kI) _ _ rfl (areaN c) (by rfl) (by rfl) (by omega) (by omega) ?_; intro b_row wn zb zd ht za zg; have zf := B.size; have hsx := hX.size; replace B := B.trans (za.mono (by omega)); replace hX := hX.trans (za.mono (by omega)); try replace r1 := r1.below (za.mono zb)
    try replace r0 := r0.below (za.mono zb)
    try replace m4 := m4.below (za.mono zb)
    try replace m7 := m7.below (za.mono zb)
    try replace row := row.below (za.mono zb)
    have row := ht; clear ht; refine hK _ _ ⟨fun _ => ⟨_, zG hX⟩, ?_⟩; clear hK K; try simp only [zM]
    simp only [zo]; refine z1 4 rfl (by kernel_rfl) ⟨_, zG hX⟩ ?_; intro K hK; try simp only [zM]
    (first | (refine zn (t := 38) rfl _ _ _ rfl (fun w hw => yi (zB r0B w hw)) (by rfl) ?_; simp only [zo]; go_big_quiet_on) | (go_big_quiet_op; go_big_quiet_on))
    simp only [zo]; refine zR 5 rfl (by kernel_rfl) rfl (fun K hK => ?_); try simp only [zM]
    refine zQ (t := 117) _ (yz _ _ rfl) ?_; intro b_m7 wn zb zd ht za zg; have zf := B.size; have hsx := hX.size; replace B := B.trans (za.mono (by omega)); replace hX := hX.trans (za.mono (by omega)); try replace r1 := r1.below (za.mono zb)
    try replace r0 := r0.below (za.mono zb)
    try replace m4 := m4.below (za.mono zb)
    try replace m7 := m7.below (za.mono zb)
    try replace row := row.below (za.mono zb)
    have m7 := ht; clear ht; refine hK _ _ ⟨fun _ => ⟨_, zG hX⟩, ?_⟩; clear hK K; try simp only [zM]
    simp only [zo]; refine qE (by kernel_rfl) (by kernel_rfl) ?_; simp only [List.drop_succ_cons, List.drop_zero]; go_wp2_with (first | (refine zq (t := 117) rfl _ _ rfl _ rfl _ rfl m7 (by kernel_rfl) rfl (by simp [xA, Value.oneCell']) (qG B (by omega) ?_); clear m7 B; intro wn m7 ze zf zg B; (try replace r1 := r1.of_eq (ze.block _ r1.lt (by omega))); (try replace r0 := r0.of_eq (ze.block _ r0.lt (by omega))); (try replace m4 := m4.of_eq (ze.block _ m4.lt (by omega))); (try replace row := row.of_eq (ze.block _ row.lt (by omega))); simp only [zo]) | fail)
    refine zL.normal ?_; go_wp2_with fail
    go_meet; exact ⟨b_m7, b_row, rfl, m7, row, B, by omega, by omega, by omega, r1, r0, m4⟩
   ·skip
    try simp only [zM]
    refine zQ (t := 117) _ (yz _ _ rfl) ?_; intro b_m7 wn zb zd ht za zg; have zf := B.size; have hsx := hX.size; replace B := B.trans (za.mono (by omega)); replace hX := hX.trans (za.mono (by omega)); try replace r1 := r1.below (za.mono zb)
    try replace r0 := r0.below (za.mono zb)
    try replace m4 := m4.below (za.mono zb)
    try replace m7 := m7.below (za.mono zb)
    try replace row := row.below (za.mono zb)
    have m7 := ht; clear ht; refine hK _ _ ⟨fun _ => ⟨_, zG hX⟩, ?_⟩; clear hK K; try simp only [zM]
    simp only [zo]; refine zR 3 rfl (by kernel_rfl) rfl (fun K hK => ?_); try simp only [zM]
    refine ZE (E := kI) _ _ rfl (areaN c) (by rfl) (by rfl) (by omega) (by omega) ?_; intro b_row wn zb zd ht za zg; have zf := B.size; have hsx := hX.size; replace B := B.trans (za.mono (by omega)); replace hX := hX.trans (za.mono (by omega)); try replace r1 := r1.below (za.mono zb)
    try replace r0 := r0.below (za.mono zb)
    try replace m4 := m4.below (za.mono zb)
    try replace m7 := m7.below (za.mono zb)
    try replace row := row.below (za.mono zb)
    have row := ht; clear ht; refine hK _ _ ⟨fun _ => ⟨_, zG hX⟩, ?_⟩; clear hK K; try simp only [zM]
    simp only [zo]; refine z1 4 rfl (by kernel_rfl) ⟨_, zG hX⟩ ?_; intro K hK; try simp only [zM]
    (first | (refine zn (t := 38) rfl _ _ _ rfl (fun w hw => yi (zB r0B w hw)) (by rfl) ?_; simp only [zo]; go_big_quiet_on) | (go_big_quiet_op; go_big_quiet_on))
    simp only [zo]; refine qE (by kernel_rfl) (by kernel_rfl) ?_; simp only [List.drop_succ_cons, List.drop_zero]; go_wp2_with (first | (refine zq (t := 117) rfl _ _ rfl _ rfl _ rfl m7 (by kernel_rfl) rfl (by simp [xA, Value.oneCell']) (qG B (by omega) ?_); clear m7 B; intro wn m7 ze zf zg B; (try replace r1 := r1.of_eq (ze.block _ r1.lt (by omega))); (try replace r0 := r0.of_eq (ze.block _ r0.lt (by omega))); (try replace m4 := m4.of_eq (ze.block _ m4.lt (by omega))); (try replace row := row.of_eq (ze.block _ row.lt (by omega))); simp only [zo]) | fail)
    refine zL.normal ?_; go_wp2_with fail
    go_meet; exact ⟨b_m7, b_row, rfl, m7, row, B, by omega, by omega, by omega, r1, r0, m4⟩
  ·skip
   try simp only [zM]
   refine zQ (t := 117) _ (yz _ _ rfl) ?_; intro b_m7 wn zb zd ht za zg; have zf := B.size; have hsx := hX.size; replace B := B.trans (za.mono (by omega)); replace hX := hX.trans (za.mono (by omega)); try replace r1 := r1.below (za.mono zb)
   try replace r0 := r0.below (za.mono zb)
   try replace m4 := m4.below (za.mono zb)
   try replace m7 := m7.below (za.mono zb)
   try replace row := row.below (za.mono zb)
   have m7 := ht; clear ht; refine hK _ _ ⟨fun _ => ⟨_, zG hX⟩, ?_⟩; clear hK K; try simp only [zM]
   simp only [zo]; refine zR 2 rfl (by kernel_rfl) rfl (fun K hK => ?_); try simp only [zM]
   go_simp
   go_at_call 125
   refine (AR.out _).mono ?_; rintro e wn ⟨rfl, za⟩; have zf := B.size; have zg := za.size; have hsx := hX.size; replace B := B.trans (za.mono B.size); replace hX := hX.trans (za.mono hX.size); try replace r1 := r1.below za
   try replace r0 := r0.below za
   try replace m4 := m4.below za
   try replace m7 := m7.below za
   try replace row := row.below za
   refine hK _ _ ⟨fun _ => ⟨_, zG hX⟩, ?_⟩; clear hK K; try simp only [zM]
   simp only [zo]; refine zR 3 rfl (by kernel_rfl) rfl (fun K hK => ?_); try simp only [zM]
   refine ZE (E := kI) _ _ rfl (areaN c) (by rfl) (by rfl) (by omega) (by omega) ?_; intro b_row wn zb zd ht za zg; have zf := B.size; have hsx := hX.size; replace B := B.trans (za.mono (by omega)); replace hX := hX.trans (za.mono (by omega)); try replace r1 := r1.below (za.mono zb)
   try replace r0 := r0.below (za.mono zb)
   try replace m4 := m4.below (za.mono zb)
   try replace m7 := m7.below (za.mono zb)
   try replace row := row.below (za.mono zb)
   have row := ht; clear ht; refine hK _ _ ⟨fun _ => ⟨_, zG hX⟩, ?_⟩; clear hK K; try simp only [zM]
   simp only [zo]; refine z1 4 rfl (by kernel_rfl) ⟨_, zG hX⟩ ?_; intro K hK; try simp only [zM]
   (first | (refine zn (t := 38) rfl _ _ _ rfl (fun w hw => yi (zB r0B w hw)) (by rfl) ?_; simp only [zo]; go_big_quiet_on) | (go_big_quiet_op; go_big_quiet_on))
   simp only [zo]; refine qE (by kernel_rfl) (by kernel_rfl) ?_; simp only [List.drop_succ_cons, List.drop_zero]; go_wp2_with (first | (refine zq (t := 117) rfl _ _ rfl _ rfl _ rfl m7 (by kernel_rfl) rfl (by simp [xA, Value.oneCell']) (qG B (by omega) ?_); clear m7 B; intro wn m7 ze zf zg B; (try replace r1 := r1.of_eq (ze.block _ r1.lt (by omega))); (try replace r0 := r0.of_eq (ze.block _ r0.lt (by omega))); (try replace m4 := m4.of_eq (ze.block _ m4.lt (by omega))); (try replace row := row.of_eq (ze.block _ row.lt (by omega))); simp only [zo]) | fail)
   refine zL.normal ?_; go_wp2_with fail
   go_meet; exact ⟨b_m7, b_row, rfl, m7, row, B, by omega, by omega, by omega, r1, r0, m4⟩
 case rest =>
  obtain ⟨b_m7, b_row, rfl, m7, row, B, p1, p2, p3, r1, r0, m4⟩ := hcut; have k0 : w.heap.size ≤ b_row := by omega
  have k1 : b_r0 ≠ b_row := by omega
  have k2 : b_m7 ≠ b_row := p3; have k3 : b_m4 ≠ b_row := by omega
  have k4 : b_m7 ≠ b_m4 := by omega
  go_wp2_with (first | (refine zq (t := 117) rfl _ _ rfl _ rfl _ rfl m4 (by kernel_rfl) rfl (by simp [xA, Value.oneCell']) (qG B (by omega) ?_); clear m4 B; intro wn m4 ze zf zg B; (try replace r1 := r1.of_eq (ze.block _ r1.lt (by omega))); (try replace r0 := r0.of_eq (ze.block _ r0.lt (by omega))); (try replace m7 := m7.of_eq (ze.block _ m7.lt (by omega))); (try replace row := row.of_eq (ze.block _ row.lt (by omega))); simp only [zo]) | (refine zp (t := 117) rfl _ rfl _ _ _ rfl (Zg m7) (by rfl) ?_; simp only [zo]) | (go_at_call 126; have hr0 := r0.lt; have hr1 := m7.lt; have hr2 := row.lt; have hsp := VZ HR0.out k0; have zf := B.size; refine (YL (vj c) (fun s W => zK 38 W b_r0 (jV c) ∧ zK 117 W b_m7 (xA c (.slice (some ⟨b_row, 0, none⟩) (areaN c) (areaN c))) ∧ jz kI W b_row s ∧ s.length = areaN c) b_row 127 #[.pointer (some ⟨b_r0, 0, none⟩), .pointer (some ⟨b_m7, 0, none⟩)] eg _ (qc ls) (List.replicate (areaN c) Px.zero) _ (HT.out _ B).2 TK.out (by omega) HP.out hr2 hsp ⟨r0, m7, row, by simp⟩ (fun s W W' hI hk => ⟨hI.1.of_eq (hk _ hr0), hI.2.1.of_eq (hk _ hr1), hI.2.2.1.of_eq (hk _ hr2), hI.2.2.2⟩) (fun s W x y p _ hI h1 h2 h3 h4 hp => (zbK c FT.out s hI.2.2.2 x y p b_r0 b_m7 b_row W hI.1 hI.2.1 hI.2.2.1 k1 k2).mono fun e W' hh => ⟨hh.1, ⟨hh.2.1.1, hh.2.1.2.1, hh.2.1.2.2, (zcw c s x y p).trans hI.2.2.2⟩, hh.2.2⟩) (zeq c)).mono ?_; rintro e wn ⟨v1, rfl, _, hI, hcc⟩; have zg := hcc.size; replace m4 := m4.of_eq (hcc.block _ m4.lt k3); replace B := qV.below B hcc k0 zf; obtain ⟨r0, m7, row, hlen⟩ := hI) | (go_at_call 104; refine (HT.out _ B).1.mono ?_; rintro e wn ⟨rfl, za⟩; have zf := B.size; have zg := za.size; replace B := B.trans (za.mono B.size); (try replace r1 := r1.below za); (try replace r0 := r0.below za); (try replace m4 := m4.below za); (try replace m7 := m7.below za); (try replace row := row.below za)) | (refine zp (t := 64) rfl _ rfl _ _ _ rfl (zv r1 Tryz.isAgg64 (by kernel_rfl)) (by rfl) ?_; simp only [zo]) | fail)
  refine bodyPost_ret (zV (t := 117) rfl _ _ (b_m4) rfl _ rfl m4 Tryz.isAgg117 (by kernel_rfl)) rfl ?_; refine ⟨_, k0, rfl, ?_, B⟩; rw [← HIM.out]; exact row
/-! ### The row, half painted -/
def kY (c : Rc) (F G : Int → Int → Px) (k : Nat) : List Px := (List.range (areaN c)).map fun j => if j < k then F (vW c j) (vX c j) else G (vW c j) (vX c j)
theorem zcE (c : Rc) (F G : Int → Int → Px) (k : Nat) : (kY c F G k).length = areaN c := by unfold kY; rw [List.length_map, List.length_range]
theorem zaL (c : Rc) (ls : List TA) (F : Int → Int → Px) : kY c F (fun x y => xm ls x y) 0 = QY c ls := by
 unfold kY QY
 refine List.map_congr_left fun j _ => ?_
 rw [if_neg (by omega)]
theorem zcD (c : Rc) (F G : Int → Int → Px) : kY c F G (areaN c) = kz c F := by
 unfold kY kz
 refine List.map_congr_left fun j hj => ?_
 rw [if_pos (List.mem_range.1 hj)]
theorem zeu (c : Rc) (F G : Int → Int → Px) {k : Nat} (h : k < areaN c) : (kY c F G k)[k]? = some (G (vW c k) (vX c k)) := by
 unfold kY
 rw [List.getElem?_map, List.getElem?_range h]
 show some (if k < k then _ else _) = _
 rw [if_neg (by omega)]
theorem zcF (c : Rc) (F G : Int → Int → Px) {k : Nat} (h : k < areaN c) : (kY c F G k).set k (F (vW c k) (vX c k)) = kY c F G (k + 1) := by
 apply List.ext_getElem?
 intro j
 rw [List.getElem?_set]
 unfold kY
 by_cases e : k = j
 ·subst e
  rw [if_pos rfl, if_pos (by rw [List.length_map, List.length_range]; exact h), List.getElem?_map, List.getElem?_range h]
  show _ = some (if k < k + 1 then _ else _)
  rw [if_pos (by omega)]
 ·rw [if_neg e]
  by_cases hj : j < areaN c
  ·rw [List.getElem?_map, List.getElem?_map, List.getElem?_range hj]
   show some (if j < k then _ else _) = some (if j < k + 1 then _ else _)
   by_cases hk : j < k
   ·rw [if_pos hk, if_pos (by omega)]
   ·rw [if_neg hk, if_neg (by omega)]
  ·rw [List.getElem?_eq_none (by rw [List.length_map, List.length_range]; omega), List.getElem?_eq_none (by rw [List.length_map, List.length_range]; omega)]
theorem zaK (c : Rc) (F G : Int → Int → Px) {k : Nat} (h : F (vW c k) (vX c k) = G (vW c k) (vX c k)) : kY c F G (k + 1) = kY c F G k := by
 unfold kY
 refine List.map_congr_left fun j _ => ?_
 by_cases hk : j < k
 ·rw [if_pos hk, if_pos (by omega)]
 ·rw [if_neg hk]
  by_cases hj : j < k + 1
  ·rw [if_pos hj, show j = k by omega, h]
  ·rw [if_neg hj]
/-- The pixel at a row and a column. -/
theorem zcH {c : Rc} (hf : xo c) (F G : Int → Int → Px) {i j : Nat} (hj : (j : Int) < c.x1 - c.x0) (hi : (i : Int) < c.y1 - c.y0) : i * widN c + j < areaN c ∧ (kY c F G (i * widN c + j))[i * widN c + j]? = some (G (c.x0 + j) (c.y0 + i)) ∧ (kY c F G (i * widN c + j)).set (i * widN c + j) (F (c.x0 + j) (c.y0 + i)) = kY c F G (i * widN c + (j + 1)) ∧ (F (c.x0 + j) (c.y0 + i) = G (c.x0 + j) (c.y0 + i) → kY c F G (i * widN c + (j + 1)) = kY c F G (i * widN c + j)) := by
 obtain ⟨k, e, hk, ex, ey⟩ := zdc hf hj hi
 have hw : c.x1 - c.x0 = (widN c : Int) := by unfold widN; have := hf.h1; omega
 have ek : k = i * widN c + j := by
  rw [hw] at e; omega
 subst ek
 have h1 := zeu c F G hk
 have h2 := zcF c F G hk
 have h3 := zaK c F G (k := i * widN c + j)
 rw [ex, ey] at h1 h2 h3
 rw [← Nat.add_assoc]
 exact ⟨hk, h1, h2, h3⟩
/-! ### The two closures -/
def chP (s : jd) (p : Px) (n : Int) : Px := if s.era = true then ZP p (255 - n) else Pl.u0 p s.col 0 n
theorem WL (s : jd) (n : Int) (p : Px) : XO s n p = if 0 < n then chP s p n else p := rfl
theorem uk (w : World) (o : Oper) (ho : o.op = .alloc 28) (ev : Operand → Value) : (execOp ev o).run Tryz.prog w = .ok (.value (.pointer (some ⟨w.heap.size, 0, none⟩))) (w.alloc (.cells #[.int .u8 0, .int .u8 0, .int .u8 0, .int .u8 0] 28)) := by
 obtain ⟨d, p, t, ps, af, gd⟩ := o
 simp only at ho
 subst ho
 kernel_rfl
theorem zdR (q r : Px) (c : Int) (w : World) (hq : q.ok) (e : ZP q c = r) : Calls Tryz.prog 75 #[.agg (kI.enc q), .int .i64 c] w fun e w' => e = .returned (.agg (kI.enc r)) ∧ Below w.heap.size w w' := e ▸ zfp q c w hq
theorem zdT (q p r : Px) (m c : Int) (w : World) (hq : q.ok) (hp : p.ok) (e : Pl.u0 q p m c = r) : Calls Tryz.prog 73 #[.agg (kI.enc q), .agg (kI.enc p), .int .i64 m, .int .i64 c] w fun e w' => e = .returned (.agg (kI.enc r)) ∧ Below w.heap.size w w' := e ▸ zfq q p m c w hq hp
theorem zbL (v : Value) (s : jd) (p q : Px) (n : Int) (b : Nat) (w : World) (s2 : zK 30 w b (jE v s)) (hp : p.ok) (hc : s.col.ok) (e : Pl.u0 p s.col 0 n = q) : Calls Tryz.prog 72 #[.agg (kI.enc p), .int .i64 n, .pointer (some ⟨b, 0, none⟩)] w fun e w' => e = .returned (.agg (kI.enc q)) ∧ Below w.heap.size w w' := by
 have B := Below.refl w.heap.size w
 have HP := Lib.hid hp
 have HC := Lib.hid hc
 have HE := Lib.hid e
 clear hp hc e
 go_enter Tryz.func72, Tryz.ntmps72
 go_upto_region 0 with fail
 refine wp_region_lit ?_
 try simp only [zM]
 (refine zt (t := 28) rfl _ rfl _ rfl (zY B ?_); clear B; intro b_r3 wn zb zd r3 za zf zk B; (try have zh := s2.lt); (try replace s2 := s2.below (za.mono zb)); simp only [zo])
 (refine zr (t := 28) rfl _ (uk _ _ rfl) (zY B ?_); clear B; intro b_r5 wn zb zd r5 za zf zk B; (try have zh := r3.lt); (try replace r3 := r3.below (za.mono zb)); (try have zh := s2.lt); (try replace s2 := s2.below (za.mono zb)); simp only [zo])
 refine wpList_nil ?_
 have k1 : b_r3 < b_r5 := by have := r3.lt; omega
 replace r3 : zK 28 _ b_r3 (kI.enc p) := r3
 go_upto_region 1 with fail
 refine wp_region_lit ?_
 try simp only [zM]
 refine j4 4 ?_
 repeat (first | go_big_quiet_skip | (go_big_quiet_want; first | ((first | refine zn (t := 28) rfl _ _ _ rfl (fun w hw => xi (zB s2 w hw)) (by rfl) ?_ | refine qB ?_ | refine qC ?_); simp only [zo]; go_big_quiet_on) | (go_big_quiet_op; go_big_quiet_on)))
 refine wpQuiet_nil ?_
 refine je (enters_of Tryz.func73 (by kernel_rfl) rfl) (c := zdT p s.col q 0 n _ HP.out HC.out HE.out) (h := ?_)
 rintro e wn ⟨rfl, za⟩
 have zf := B.size
 have zg := za.size
 replace B := B.trans (za.mono B.size)
 (try replace r5 := r5.below za)
 refine ⟨_, rfl, ?_⟩
 simp only [zo]
 (refine zq (t := 28) rfl _ _ rfl _ rfl _ rfl r5 (by kernel_rfl) rfl (by simp [kI, pxA, Value.oneCell']) (qG B (by omega) ?_); clear r5 B; intro wn r5 ze zf zg B; simp only [zo])
 refine wpList_nil ?_
 first | (refine bodyPost_ret (zz (t := 28) rfl _ _ (b_r5) rfl r5 Tryz.isAgg28 (by kernel_rfl)) rfl ?_) | (go_step; refine bodyPost_ret (zz (t := 28) rfl _ _ (b_r5) rfl r5 Tryz.isAgg28 (by kernel_rfl)) rfl ?_) | (go_step; go_step; refine bodyPost_ret (zz (t := 28) rfl _ _ (b_r5) rfl r5 Tryz.isAgg28 (by kernel_rfl)) rfl ?_) | (go_step; go_step; go_step; refine bodyPost_ret (zz (t := 28) rfl _ _ (b_r5) rfl r5 Tryz.isAgg28 (by kernel_rfl)) rfl ?_) | (go_step; go_step; go_step; go_step; refine bodyPost_ret (zz (t := 28) rfl _ _ (b_r5) rfl r5 Tryz.isAgg28 (by kernel_rfl)) rfl ?_) | (go_step; go_step; go_step; go_step; go_step; refine bodyPost_ret (zz (t := 28) rfl _ _ (b_r5) rfl r5 Tryz.isAgg28 (by kernel_rfl)) rfl ?_)
 exact ⟨rfl, B⟩
theorem zbM (p q : Px) (n : Int) (w : World) (hn : 0 ≤ n ∧ n ≤ 255) (hp : p.ok) (e : ZP p (255 - n) = q) : Calls Tryz.prog 74 #[.agg (kI.enc p), .int .i64 n] w fun e w' => e = .returned (.agg (kI.enc q)) ∧ Below w.heap.size w w' := by
 have B := Below.refl w.heap.size w
 have HP := Lib.hid hp
 have HE := Lib.hid e
 clear hp e
 go_enter Tryz.func74, Tryz.ntmps74
 go_upto_region 0 with fail
 refine wp_region_lit ?_
 try simp only [zM]
 (refine zt (t := 28) rfl _ rfl _ rfl (zY B ?_); clear B; intro b_r2 wn zb zd r2 za zf zk B; simp only [zo])
 (refine zr (t := 28) rfl _ (uk _ _ rfl) (zY B ?_); clear B; intro b_r4 wn zb zd r4 za zf zk B; (try have zh := r2.lt); (try replace r2 := r2.below (za.mono zb)); simp only [zo])
 refine wpList_nil ?_
 have k1 : b_r2 < b_r4 := by have := r2.lt; omega
 replace r2 : zK 28 _ b_r2 (kI.enc p) := r2
 go_upto_region 1 with fail
 refine wp_region_lit ?_
 try simp only [zM]
 refine zy 3 ?_
 refine je (enters_of Tryz.func75 (by kernel_rfl) rfl) (c := zdR p q (255 - n) _ HP.out HE.out) (h := ?_)
 rintro e wn ⟨rfl, za⟩
 have zf := B.size
 have zg := za.size
 replace B := B.trans (za.mono B.size)
 (try replace r4 := r4.below za)
 refine ⟨_, rfl, ?_⟩
 simp only [zo]
 (refine zq (t := 28) rfl _ _ rfl _ rfl _ rfl r4 (by kernel_rfl) rfl (by simp [kI, pxA, Value.oneCell']) (qG B (by omega) ?_); clear r4 B; intro wn r4 ze zf zg B; simp only [zo])
 refine wpList_nil ?_
 first | (refine bodyPost_ret (zz (t := 28) rfl _ _ (b_r4) rfl r4 Tryz.isAgg28 (by kernel_rfl)) rfl ?_) | (go_step; refine bodyPost_ret (zz (t := 28) rfl _ _ (b_r4) rfl r4 Tryz.isAgg28 (by kernel_rfl)) rfl ?_) | (go_step; go_step; refine bodyPost_ret (zz (t := 28) rfl _ _ (b_r4) rfl r4 Tryz.isAgg28 (by kernel_rfl)) rfl ?_) | (go_step; go_step; go_step; refine bodyPost_ret (zz (t := 28) rfl _ _ (b_r4) rfl r4 Tryz.isAgg28 (by kernel_rfl)) rfl ?_) | (go_step; go_step; go_step; go_step; refine bodyPost_ret (zz (t := 28) rfl _ _ (b_r4) rfl r4 Tryz.isAgg28 (by kernel_rfl)) rfl ?_) | (go_step; go_step; go_step; go_step; go_step; refine bodyPost_ret (zz (t := 28) rfl _ _ (b_r4) rfl r4 Tryz.isAgg28 (by kernel_rfl)) rfl ?_)
 exact ⟨rfl, B⟩
end Go.Proofs.YtepelndbbhdofaaGreatDoor
