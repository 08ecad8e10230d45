/- Contracts of the reference's constants and Of. -/
import Derived.Test.YtelfkakaaobfcaaDoorDq
import Derived.Test.YtelfkakaaobfcaaDoorDh
namespace Go.Proofs.YtelfkakaaobfcaaDoor
open Go.RowKit Sha
set_option linter.unusedVariables false
set_option linter.unusedSimpArgs false

theorem run_build_start (w : World) (o : Oper) (ho : o.op = .build 46 #[(0, .const (.int .u32 1779033703)), (1, .const (.int .u32 3144134277)), (2, .const (.int .u32 1013904242)), (3, .const (.int .u32 2773480762)), (4, .const (.int .u32 1359893119)), (5, .const (.int .u32 2600822924)), (6, .const (.int .u32 528734635)), (7, .const (.int .u32 1541459225))]) (a : Act) : (execOp a.eval o).run Tryd.prog w = .ok (.value (Wd.v 8 Sha.start.at)) w := by
  obtain ⟨d, p, t, ps, af, gd⟩ := o
  simp only at ho
  subst ho
  kernel_rfl
theorem wpList_build_start {ops : Array Oper} {rest : List Oper} {o : Oper} {a : Act} {w : World} {Q : Exit → Act → World → Prop} (hg : o.guard = none) (ho : o.op = .build 46 #[(0, .const (.int .u32 1779033703)), (1, .const (.int .u32 3144134277)), (2, .const (.int .u32 1013904242)), (3, .const (.int .u32 2773480762)), (4, .const (.int .u32 1359893119)), (5, .const (.int .u32 2600822924)), (6, .const (.int .u32 528734635)), (7, .const (.int .u32 1541459225))])
    (h : wpList Tryd.prog ops Q rest (a.put o.dst (Wd.v 8 Sha.start.at)) w) : wpList Tryd.prog ops Q (o :: rest) a w :=
  wpList_plain hg fun K hK => by
    unfold Oper.wp
    rw [run_build_start w o ho a]
    exact hK _ _ h
theorem run_build_k (w : World) (o : Oper) (ho : o.op = .build 80 #[(0, .const (.int .u32 1116352408)), (1, .const (.int .u32 1899447441)), (2, .const (.int .u32 3049323471)), (3, .const (.int .u32 3921009573)), (4, .const (.int .u32 961987163)), (5, .const (.int .u32 1508970993)), (6, .const (.int .u32 2453635748)), (7, .const (.int .u32 2870763221)), (8, .const (.int .u32 3624381080)), (9, .const (.int .u32 310598401)), (10, .const (.int .u32 607225278)), (11, .const (.int .u32 1426881987)), (12, .const (.int .u32 1925078388)), (13, .const (.int .u32 2162078206)), (14, .const (.int .u32 2614888103)), (15, .const (.int .u32 3248222580)), (16, .const (.int .u32 3835390401)), (17, .const (.int .u32 4022224774)), (18, .const (.int .u32 264347078)), (19, .const (.int .u32 604807628)), (20, .const (.int .u32 770255983)), (21, .const (.int .u32 1249150122)), (22, .const (.int .u32 1555081692)), (23, .const (.int .u32 1996064986)), (24, .const (.int .u32 2554220882)), (25, .const (.int .u32 2821834349)), (26, .const (.int .u32 2952996808)), (27, .const (.int .u32 3210313671)), (28, .const (.int .u32 3336571891)), (29, .const (.int .u32 3584528711)), (30, .const (.int .u32 113926993)), (31, .const (.int .u32 338241895)), (32, .const (.int .u32 666307205)), (33, .const (.int .u32 773529912)), (34, .const (.int .u32 1294757372)), (35, .const (.int .u32 1396182291)), (36, .const (.int .u32 1695183700)), (37, .const (.int .u32 1986661051)), (38, .const (.int .u32 2177026350)), (39, .const (.int .u32 2456956037)), (40, .const (.int .u32 2730485921)), (41, .const (.int .u32 2820302411)), (42, .const (.int .u32 3259730800)), (43, .const (.int .u32 3345764771)), (44, .const (.int .u32 3516065817)), (45, .const (.int .u32 3600352804)), (46, .const (.int .u32 4094571909)), (47, .const (.int .u32 275423344)), (48, .const (.int .u32 430227734)), (49, .const (.int .u32 506948616)), (50, .const (.int .u32 659060556)), (51, .const (.int .u32 883997877)), (52, .const (.int .u32 958139571)), (53, .const (.int .u32 1322822218)), (54, .const (.int .u32 1537002063)), (55, .const (.int .u32 1747873779)), (56, .const (.int .u32 1955562222)), (57, .const (.int .u32 2024104815)), (58, .const (.int .u32 2227730452)), (59, .const (.int .u32 2361852424)), (60, .const (.int .u32 2428436474)), (61, .const (.int .u32 2756734187)), (62, .const (.int .u32 3204031479)), (63, .const (.int .u32 3329325298))]) (a : Act) : (execOp a.eval o).run Tryd.prog w = .ok (.value (Wd.v 64 kW)) w := by
  obtain ⟨d, p, t, ps, af, gd⟩ := o
  simp only at ho
  subst ho
  kernel_rfl
theorem wpList_build_k {ops : Array Oper} {rest : List Oper} {o : Oper} {a : Act} {w : World} {Q : Exit → Act → World → Prop} (hg : o.guard = none) (ho : o.op = .build 80 #[(0, .const (.int .u32 1116352408)), (1, .const (.int .u32 1899447441)), (2, .const (.int .u32 3049323471)), (3, .const (.int .u32 3921009573)), (4, .const (.int .u32 961987163)), (5, .const (.int .u32 1508970993)), (6, .const (.int .u32 2453635748)), (7, .const (.int .u32 2870763221)), (8, .const (.int .u32 3624381080)), (9, .const (.int .u32 310598401)), (10, .const (.int .u32 607225278)), (11, .const (.int .u32 1426881987)), (12, .const (.int .u32 1925078388)), (13, .const (.int .u32 2162078206)), (14, .const (.int .u32 2614888103)), (15, .const (.int .u32 3248222580)), (16, .const (.int .u32 3835390401)), (17, .const (.int .u32 4022224774)), (18, .const (.int .u32 264347078)), (19, .const (.int .u32 604807628)), (20, .const (.int .u32 770255983)), (21, .const (.int .u32 1249150122)), (22, .const (.int .u32 1555081692)), (23, .const (.int .u32 1996064986)), (24, .const (.int .u32 2554220882)), (25, .const (.int .u32 2821834349)), (26, .const (.int .u32 2952996808)), (27, .const (.int .u32 3210313671)), (28, .const (.int .u32 3336571891)), (29, .const (.int .u32 3584528711)), (30, .const (.int .u32 113926993)), (31, .const (.int .u32 338241895)), (32, .const (.int .u32 666307205)), (33, .const (.int .u32 773529912)), (34, .const (.int .u32 1294757372)), (35, .const (.int .u32 1396182291)), (36, .const (.int .u32 1695183700)), (37, .const (.int .u32 1986661051)), (38, .const (.int .u32 2177026350)), (39, .const (.int .u32 2456956037)), (40, .const (.int .u32 2730485921)), (41, .const (.int .u32 2820302411)), (42, .const (.int .u32 3259730800)), (43, .const (.int .u32 3345764771)), (44, .const (.int .u32 3516065817)), (45, .const (.int .u32 3600352804)), (46, .const (.int .u32 4094571909)), (47, .const (.int .u32 275423344)), (48, .const (.int .u32 430227734)), (49, .const (.int .u32 506948616)), (50, .const (.int .u32 659060556)), (51, .const (.int .u32 883997877)), (52, .const (.int .u32 958139571)), (53, .const (.int .u32 1322822218)), (54, .const (.int .u32 1537002063)), (55, .const (.int .u32 1747873779)), (56, .const (.int .u32 1955562222)), (57, .const (.int .u32 2024104815)), (58, .const (.int .u32 2227730452)), (59, .const (.int .u32 2361852424)), (60, .const (.int .u32 2428436474)), (61, .const (.int .u32 2756734187)), (62, .const (.int .u32 3204031479)), (63, .const (.int .u32 3329325298))])
    (h : wpList Tryd.prog ops Q rest (a.put o.dst (Wd.v 64 kW)) w) : wpList Tryd.prog ops Q (o :: rest) a w :=
  wpList_plain hg fun K hK => by
    unfold Oper.wp
    rw [run_build_k w o ho a]
    exact hK _ _ h

set_option maxHeartbeats 1000000 in
set_option maxRecDepth 20000 in
theorem R_constants (w : World) : Calls Tryd.prog 40 #[] w fun e w' => e = .returned (Wd.v 64 kW) ∧ Below w.heap.size w w' := by
  have B := Below.refl w.heap.size w
  go_enter Tryd.func40, Tryd.ntmps40
  go_wp2_with (first | (refine wpList_storeW wt64 rfl _ _ rfl _ rfl _ rfl k1 ?_; clear k1; intro wn ht hcn hzn; have hsz := B.size; replace hzn := Nat.le_of_eq hzn.symm; replace B := Chg.below B hcn (by omega) B.size; have k1 := ht; clear ht; simp only [Act.put, List.setIfInBounds_toArray, List.set_cons_zero, List.set_cons_succ]) | (refine wpList_build_k rfl rfl ?_; simp only [Act.put, List.setIfInBounds_toArray, List.set_cons_zero, List.set_cons_succ]) | (refine wpList_allocW64 rfl rfl ?_; intro b_k1 wn hle hge ht hbn hzn; have hsz := B.size; replace B := B.trans (hbn.mono (by omega)); have hln := Nat.lt_of_lt_of_eq (Nat.lt_succ_self _) hzn.symm; clear hzn; (try first | (have hlt := k1.lt; replace k1 := k1.of_eq (hbn.block _ (by omega))) | replace k1 := k1.below (hbn.mono hle)); have k1 := ht; clear ht; simp only [Act.put, List.setIfInBounds_toArray, List.set_cons_zero, List.set_cons_succ]))
  refine bodyPost_ret (results_w wt64 rfl _ _ (b_k1) rfl k1) rfl ?_
  exact ⟨rfl, B⟩

theorem R_Big4z (n : Nat) (z : Int) (hz : z = (n : Int)) (hn : n < 18446744073709551616) (w : World) : Calls Tryd.prog 41 #[.int .u64 z, .int .i64 4] w fun e w' => e = .returned (.string (ofL (big n 4))) ∧ Below w.heap.size w w' := hz ▸ R_Big4 n hn w
theorem R_Big8z (n : Nat) (z : Int) (hz : z = (n : Int)) (hn : n < 18446744073709551616) (w : World) : Calls Tryd.prog 41 #[.int .u64 z, .int .i64 8] w fun e w' => e = .returned (.string (ofL (big n 8))) ∧ Below w.heap.size w w' := hz ▸ R_Big8 n hn w
section
variable {C : World → Prop} {a : Act} {o : Oper} {K : Act → Prop}
theorem quiet_convAny {s d : TypeId} {v u : Value} {x : Operand} (h : o.op = .convert s d x) (hx : a.eval x = u) (hr : ∀ w, C w → (convert s d u).run Tryd.prog w = .ok v w) (hk : K (a.put o.dst v)) : o.quiet Tryd.prog a C K :=
  ⟨_, fun w hw => by unfold Oper.quietAt execOp; simp only [h, hx, hr w hw, Sem.run_bind, Sem.run_pure, Result.andThen_ok]; exact ⟨rfl, rfl⟩, hk⟩
end
theorem ov_own {B : Nat} {v : Value} {l : List UInt8} {w : World} (h : OwnB B v l w) : ∀ w', (∃ u, w' = ov w u) → OwnB B v l w' := by
  rintro w' ⟨u, rfl⟩
  exact h.below (ov_below w u)
/-- How long a slice is. -/
def slcLen : Value → Nat
  | .slice _ n _ => n
  | _ => 0
theorem own128 {B b : Nat} {w : World} (h : BAt 5 1 w b (fun _ => 128)) (hb : B ≤ b) : OwnB B (.slice (some ⟨b, 0, none⟩) 1 1) [128] w :=
  OwnB.made h hb rfl (by decide) (fun i hi => by
    have e : i = 0 := by omega
    subst e
    rfl)
theorem rep_next (k : Nat) : (128 : UInt8) :: List.replicate k 0 ++ [0] = 128 :: List.replicate (k + 1) 0 := by
  rw [List.cons_append, List.replicate_succ']

set_option maxHeartbeats 4000000 in
set_option maxRecDepth 20000 in
theorem R_Of (l : List UInt8) (w : World) (hl : l.length < 1099511627776) : Calls Tryd.prog 24 #[.string (ofL l)] w fun e w' => e = .returned (.string (ofL (ofB l))) ∧ Below w.heap.size w w' := by
  have B := Below.refl w.heap.size w
  have hz := Lib.hid (show zeros l.length = (119 - l.length % 64) % 64 from rfl)
  have hz2 : zeros l.length < 64 := by unfold zeros; omega
  go_enter Tryd.func24, Tryd.ntmps24
  go_wp2_with (first | (have _ := k1; refine wpList_bs128 rfl rfl ?_; intro b_b1 wn hle hge ht hbn hzn; have hsz := B.size; replace B := B.trans (hbn.mono (by omega)); have hln := Nat.lt_of_lt_of_eq (Nat.lt_succ_self _) hzn.symm; clear hzn; (try first | (have hlt := h1.lt; replace h1 := h1.of_eq (hbn.block _ (by omega))) | replace h1 := h1.below (hbn.mono hle)); (try first | (have hlt := k1.lt; replace k1 := k1.of_eq (hbn.block _ (by omega))) | replace k1 := k1.below (hbn.mono hle)); (try first | (have hlt := b1.lt; replace b1 := b1.of_eq (hbn.block _ (by omega))) | replace b1 := b1.below (hbn.mono hle)); (try first | (have hlt := b2.lt; replace b2 := b2.of_eq (hbn.block _ (by omega))) | replace b2 := b2.below (hbn.mono hle)); have b1 := ht; clear ht; simp only [Act.put, List.setIfInBounds_toArray, List.set_cons_zero, List.set_cons_succ]) | (refine wpList_storeW wt64 rfl _ _ rfl _ rfl _ rfl k1 ?_; clear k1; intro wn ht hcn hzn; have hsz := B.size; replace hzn := Nat.le_of_eq hzn.symm; replace B := Chg.below B hcn (by omega) B.size; (try replace h1 := h1.of_eq (hcn.block _ h1.lt (by omega))); (try replace b1 := b1.of_eq (hcn.block _ b1.lt (by omega))); (try replace b2 := b2.of_eq (hcn.block _ b2.lt (by omega))); have k1 := ht; clear ht; simp only [Act.put, List.setIfInBounds_toArray, List.set_cons_zero, List.set_cons_succ]) | (have _ := h1; refine wpList_allocW64 rfl rfl ?_; intro b_k1 wn hle hge ht hbn hzn; have hsz := B.size; replace B := B.trans (hbn.mono (by omega)); have hln := Nat.lt_of_lt_of_eq (Nat.lt_succ_self _) hzn.symm; clear hzn; (try first | (have hlt := h1.lt; replace h1 := h1.of_eq (hbn.block _ (by omega))) | replace h1 := h1.below (hbn.mono hle)); (try first | (have hlt := k1.lt; replace k1 := k1.of_eq (hbn.block _ (by omega))) | replace k1 := k1.below (hbn.mono hle)); (try first | (have hlt := b1.lt; replace b1 := b1.of_eq (hbn.block _ (by omega))) | replace b1 := b1.below (hbn.mono hle)); (try first | (have hlt := b2.lt; replace b2 := b2.of_eq (hbn.block _ (by omega))) | replace b2 := b2.below (hbn.mono hle)); have k1 := ht; clear ht; simp only [Act.put, List.setIfInBounds_toArray, List.set_cons_zero, List.set_cons_succ]) | (go_at_call 40; refine (R_constants _).mono ?_; rintro e wn ⟨rfl, hbn⟩; have hsz := B.size; have hzn := hbn.size; replace B := B.trans (hbn.mono B.size); (try first | replace h1 := h1.of_eq (hbn.block _ h1.lt) | replace h1 := h1.below hbn); (try first | replace k1 := k1.of_eq (hbn.block _ k1.lt) | replace k1 := k1.below hbn); (try first | replace b1 := b1.of_eq (hbn.block _ b1.lt) | replace b1 := b1.below hbn); (try first | replace b2 := b2.of_eq (hbn.block _ b2.lt) | replace b2 := b2.below hbn)) | (refine wpList_storeW wt8 rfl _ _ rfl _ rfl _ rfl h1 ?_; clear h1; intro wn ht hcn hzn; have hsz := B.size; replace hzn := Nat.le_of_eq hzn.symm; replace B := Chg.below B hcn (by omega) B.size; (try replace k1 := k1.of_eq (hcn.block _ k1.lt (by omega))); (try replace b1 := b1.of_eq (hcn.block _ b1.lt (by omega))); (try replace b2 := b2.of_eq (hcn.block _ b2.lt (by omega))); have h1 := ht; clear ht; simp only [Act.put, List.setIfInBounds_toArray, List.set_cons_zero, List.set_cons_succ]) | (refine wpList_build_start rfl rfl ?_; simp only [Act.put, List.setIfInBounds_toArray, List.set_cons_zero, List.set_cons_succ]) | (refine wpList_allocW8 rfl rfl ?_; intro b_h1 wn hle hge ht hbn hzn; have hsz := B.size; replace B := B.trans (hbn.mono (by omega)); have hln := Nat.lt_of_lt_of_eq (Nat.lt_succ_self _) hzn.symm; clear hzn; (try first | (have hlt := h1.lt; replace h1 := h1.of_eq (hbn.block _ (by omega))) | replace h1 := h1.below (hbn.mono hle)); (try first | (have hlt := k1.lt; replace k1 := k1.of_eq (hbn.block _ (by omega))) | replace k1 := k1.below (hbn.mono hle)); (try first | (have hlt := b1.lt; replace b1 := b1.of_eq (hbn.block _ (by omega))) | replace b1 := b1.below (hbn.mono hle)); (try first | (have hlt := b2.lt; replace b2 := b2.of_eq (hbn.block _ (by omega))) | replace b2 := b2.below (hbn.mono hle)); have h1 := ht; clear ht; simp only [Act.put, List.setIfInBounds_toArray, List.set_cons_zero, List.set_cons_succ]))
  have od := own128 b1 (Nat.le_refl _)
  have hbb : w.heap.size ≤ b_b1 := by omega
  have hb1 : b_h1 < b_b1 := by have := h1.lt; omega
  have hb2 : b_k1 < b_b1 := by have := k1.lt; omega
  have hbz := b1.lt
  clear b1
  go_loopw [5] (fun v wr => ∃ k : Nat, k ≤ zeros l.length ∧ OwnB b_b1 v (128 :: List.replicate k 0) wr ∧ Below w.heap.size w wr ∧ b_b1 < wr.heap.size ∧ WAt 46 8 wr b_h1 Sha.start.at ∧ WAt 80 64 wr b_k1 kW) (fun v _ => 200 - slcLen v)
  case atStart => exact ⟨0, by omega, od, B, hbz, h1, k1⟩
  case round =>
    clear B h1 k1 od
    obtain ⟨k, hk, od, B, hlt1, h1, k1⟩ := hrel
    obtain ⟨va, vc, rfl⟩ := od.len
    rw [List.length_cons, List.length_replicate] at *
    by_cases hlt : k < zeros l.length
    · have hne : ((l.length : Int) + ((k : Int) + 1)) % 64 ≠ 56 := by have := hz.out; omega
      go_wp2_with (first | (at_builtin; refine wpList_append1 rfl _ _ rfl _ rfl _ _ rfl (y := 0) od b2 rfl (by rw [List.length_cons, List.length_replicate]; omega) (by omega) ?_; intro vn wn ht hbn; have hsz := B.size; have hzn := hbn.size; replace B := B.trans (hbn.mono (by omega)); clear od b2; (try replace h1 := h1.of_eq (hbn.block _ (by omega))); (try replace k1 := k1.of_eq (hbn.block _ (by omega))); have od := ht; clear ht; simp only [Act.put, List.setIfInBounds_toArray, List.set_cons_zero, List.set_cons_succ]) | (refine wpList_bs0 rfl rfl ?_; intro b_b2 wn hle hge ht hbn hzn; replace od := od.below (hbn.mono hle); have hsz := B.size; replace B := B.trans (hbn.mono (by omega)); have hln := Nat.lt_of_lt_of_eq (Nat.lt_succ_self _) hzn.symm; clear hzn; (try first | (have hlt := h1.lt; replace h1 := h1.of_eq (hbn.block _ (by omega))) | replace h1 := h1.below (hbn.mono hle)); (try first | (have hlt := k1.lt; replace k1 := k1.of_eq (hbn.block _ (by omega))) | replace k1 := k1.below (hbn.mono hle)); have b2 := ht; clear ht; simp only [Act.put, List.setIfInBounds_toArray, List.set_cons_zero, List.set_cons_succ]))
      rw [rep_next] at od
      go_roundw
      case rel => exact ⟨k + 1, by omega, od, B, by omega, h1, k1⟩
      case measure =>
        obtain ⟨va', vc', rfl⟩ := od.len
        simp [slcLen]
        omega
    · obtain rfl : k = zeros l.length := by omega
      have hne : ((l.length : Int) + ((zeros l.length : Nat) + 1)) % 64 = 56 := by have := hz.out; omega
      go_wp2
      refine wp_region_ov (by kernel_rfl) (by kernel_rfl) ?_
      repeat (first | go_big_quiet_skip | (go_big_quiet_want; first | (refine quiet_convAny (s := 44) (d := 9) rfl rfl (fun w hw => (ov_own od w hw).conv (by simp)) ?_; simp only [Act.put, List.setIfInBounds_toArray, List.set_cons_zero, List.set_cons_succ]; go_big_quiet_on) | (go_big_quiet_op; first | go_big_quiet_on | go_big_quiet_call ((first | (go_at_call 41; exact calls_ov (R_Big8z (8 * l.length) _ (by omega) (by omega) _)))))))
      refine wpQuiet_nil ?_
      intro wn hbn
      have hsz := B.size
      have hzn := hbn.size
      replace B := B.trans (hbn.mono B.size)
      try replace h1 := h1.of_eq (hbn.block _ h1.lt)
      try replace k1 := k1.of_eq (hbn.block _ k1.lt)
      have hp : l ++ 128 :: (List.replicate (zeros l.length) 0 ++ big (8 * l.length) 8) = pad l := rfl
      simp only [List.append_assoc, List.cons_append, hp]
      obtain ⟨T, hT⟩ : ∃ T, (pad l).length = 64 * T := ⟨(pad l).length / 64, by rw [pad_length, hz.out]; omega⟩
      have hT2 : 64 * T < 2199023255552 := by rw [← hT, pad_length]; omega
      have hres := Lib.hid (show ofB l = outB (blocks Sha.start (pad l) T) from by unfold ofB; rw [show (pad l).length / 64 = T by omega])
      clear od hp hne hz hz2 hlt
      generalize (zeros l.length : Int) = zz at *
      go_wp2
      go_loopw [7] (fun i wr => ∃ k : Nat, k ≤ T ∧ i = .int .i64 (64 * k) ∧ Below w.heap.size w wr ∧ WAt 46 8 wr b_h1 (blocks Sha.start (pad l) k).at ∧ WAt 80 64 wr b_k1 kW) (fun i _ => (((64 * T : Nat) : Int) - intOf i).toNat)
      case atStart => exact ⟨0, by omega, rfl, B, h1, k1⟩
      case round =>
        clear B h1 k1
        obtain ⟨k, hk, rfl, B, h1, k1⟩ := hrel
        by_cases hlt2 : k < T
        · have hlen : 64 * k + 64 ≤ (pad l).length := by omega
          go_wp2
          refine wp_region_ov_tail 8 (by kernel_rfl) (by kernel_rfl) ?_
          simp only [List.take_succ_cons, List.take_zero, List.drop_succ_cons, List.drop_zero]
          repeat (first | go_big_quiet_skip | (go_big_quiet_want; first | (refine quiet_loadAny (t := 46) rfl _ _ _ rfl (fun w hw => run_load_w wt8 (ov_w h1 w hw)) (by rfl) ?_; simp only [Act.put, List.setIfInBounds_toArray, List.set_cons_zero, List.set_cons_succ]; go_big_quiet_on) | (refine quiet_loadAny (t := 80) rfl _ _ _ rfl (fun w hw => run_load_w wt64 (ov_w k1 w hw)) (by rfl) ?_; simp only [Act.put, List.setIfInBounds_toArray, List.set_cons_zero, List.set_cons_succ]; go_big_quiet_on) | (go_big_quiet_op; first | go_big_quiet_on | go_big_quiet_call ((first | (go_at_call 42; exact calls_ov (R_compress _ _ _ (by rw [ofL_size]; simp; omega))))))))
          refine wpQuiet_nil ?_
          intro wn hbn
          have hsz := B.size
          have hzn := hbn.size
          replace B := B.trans (hbn.mono B.size)
          try replace h1 := h1.of_eq (hbn.block _ h1.lt)
          try replace k1 := k1.of_eq (hbn.block _ k1.lt)
          go_wp2_with (first | (refine wpList_storeW wt8 rfl _ _ rfl _ rfl _ rfl h1 ?_; clear h1; intro wn ht hcn hzn; have hsz := B.size; replace hzn := Nat.le_of_eq hzn.symm; replace B := Chg.below B hcn (by omega) B.size; (try replace k1 := k1.of_eq (hcn.block _ k1.lt (by omega))); have h1 := ht; clear ht; simp only [Act.put, List.setIfInBounds_toArray, List.set_cons_zero, List.set_cons_succ]))
          rw [bytes_ofL, ← blocks_next] at h1
          go_roundw
          case rel => exact ⟨k + 1, by omega, by go_num, B, h1, k1⟩
          case measure => simp [intOf]; omega
        · obtain rfl : k = T := by omega
          generalize blocks Sha.start (pad l) k = st at *
          go_wp2
          clear hlt2 hk hT2
          generalize (k : Int) = z7 at *
          clear hT
          go_loopw [8, 9] (fun d i wr => ∃ n : Nat, n ≤ 8 ∧ d = .string (ofL (outK st n)) ∧ i = .int .i64 n ∧ Below w.heap.size w wr ∧ WAt 46 8 wr b_h1 st.at) (fun _ i _ => (8 - intOf i).toNat)
          case atStart => exact ⟨0, by omega, rfl, rfl, B, h1⟩
          case round =>
            clear B h1 k1
            obtain ⟨n, hn, rfl, rfl, B, h1⟩ := hrel
            by_cases hlt3 : n < 8
            · have hol := outK_length st n
              have hxl := (st.at n).isLt
              go_wp2_with (first | (refine wpList_loadAny (t := 45) rfl _ rfl _ _ _ rfl (run_load_word h1 (hlt3)) (by first | rfl | omega) ?_; simp only [Act.put, List.setIfInBounds_toArray, List.set_cons_zero, List.set_cons_succ]) | (go_at_call 41; refine (R_Big4 _ (by omega) _).mono ?_; rintro e wn ⟨rfl, hbn⟩; have hsz := B.size; have hzn := hbn.size; replace B := B.trans (hbn.mono B.size); (try first | replace h1 := h1.of_eq (hbn.block _ h1.lt) | replace h1 := h1.below hbn)))
              go_roundw
              case rel => exact ⟨n + 1, by omega, by rw [outK_next], by go_num, B, h1⟩
              case measure => simp [intOf]; omega
            · obtain rfl : n = 8 := by omega
              go_wp2
              go_ret
              exact ⟨by rw [hres.out, ← outK_all]; rfl, B⟩
end Go.Proofs.YtelfkakaaobfcaaDoor
