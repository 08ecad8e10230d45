/- SelectionLaws: for all masks, Union and Common are commutative, associative and idempotent, absorb each other, and have the empty raster as neutral or absorbing element; Minus with the empty raster returns the mask; the law returns true for every input, and its arguments read as they did. No condition. -/
import Derived.Test.YtamgpfblhlfhaaaGreatSl4
import Derived.SizedLaws
import Derived.ChangeSlices

/- SamePaths: equal lists of polygons. -/
namespace Go.Proofs.YtamgpfblhlfhaaaGreat
open Go.RowKit Go.Shelf Pl
set_option linter.unusedVariables false
set_option linter.unusedSimpArgs false
set_option maxRecDepth 20000
theorem run_load_sp {w : World} {b j : Nat} {v : Value} (h : w.cell? ⟨b, j, none⟩ = some v) : (Instr.loadAt 22 (.pointer (some ⟨b, j, none⟩))).run Tryz.prog w = .ok v w := by
 simp [go_sem, h]
theorem rce_sl {g o : Nat} {vs : List Slc} {w : World} (h : RCellsE slE g o vs w) {i : Nat} {a : Option Addr} {n c : Nat} (hi : vs[i]? = some ⟨a, n, c⟩) : (Instr.loadAt 22 (.pointer (some ⟨g, o + i * 1, none⟩))).run Tryz.prog w = .ok (.slice a n c) w :=
 run_load_sp (by have := h.2 i _ hi 0 (by omega); rw [Nat.add_zero] at this; exact this)
theorem equalIn_pt (d : Nat) (x y x' y' : Int) (w : World) : (Op.equalIn (d + 2) 53 (.agg #[.int .i64 x, .int .i64 y]) (.agg #[.int .i64 x', .int .i64 y'])).run Tryz.prog w = .ok (decide ((x, y) = (x', y'))) w := by
 have h : (Op.equalIn (d + 2) 53 (.agg #[.int .i64 x, .int .i64 y]) (.agg #[.int .i64 x', .int .i64 y'])).run Tryz.prog w = .ok (x == x' && y == y') w := by
  by_cases h1 : x = x' <;> by_cases h2 : y = y' <;> simp [go_sem, h1, h2]
 rw [h]
 congr 1
 rw [Bool.eq_iff_iff]
 simp
theorem neq_pt (x y x' y' : Int) (w : World) : (binOp .neq 53 (.agg #[.int .i64 x, .int .i64 y]) (.agg #[.int .i64 x', .int .i64 y'])).run Tryz.prog w = .ok (.bool (!decide ((x, y) = (x', y')))) w := by
 have h := run_neq_struct (P := Tryz.prog) w 53 #[.int .i64 x, .int .i64 y] #[.int .i64 x', .int .i64 y']
 rw [h, equalIn_pt 9998 x y x' y' w]; rfl
section
variable {o : Oper} {a : Act} {C : World → Prop} {K : Act → Prop}
theorem quiet_neqP {p q : Operand} {t2 : TypeId} (h : o.op = .binOp .neq 53 p q t2) (x y x' y' : Int) (hx : a.eval p = .agg #[.int .i64 x, .int .i64 y]) (hy : a.eval q = .agg #[.int .i64 x', .int .i64 y']) (b : Bool) (hb : decide ((x, y) = (x', y')) = !b) (hk : K (a.put o.dst (.bool b))) : o.quiet Tryz.prog a C K :=
 ⟨_, fun w hw => by
  have hg : (eqGuard .neq 53 p q (.agg #[.int .i64 x, .int .i64 y]) (.agg #[.int .i64 x', .int .i64 y'])).run Tryz.prog w = .ok () w := run_eqGuard_agg w _ 53 p q _ _ (by kernel_rfl)
  unfold Oper.quietAt execOp
  simp only [h, hx, hy, hg, neq_pt, hb, Bool.not_not, Sem.run_bind, Sem.run_pure, Result.andThen_ok]
  exact ⟨rfl, rfl⟩, hk⟩
end
theorem getD_ne {α : Type} {l m : List α} {i : Nat} (h : l[i]? ≠ m[i]?) : l ≠ m := fun e => h (by rw [e])
theorem all_eq {α : Type} {l m : List α} (hl : l.length = m.length) (h : ∀ i, i < l.length → l[i]? = m[i]?) : l = m := by
 refine List.ext_getElem? fun i => ?_
 by_cases hi : i < l.length
 ·exact h i hi
 ·rw [List.getElem?_eq_none (by omega), List.getElem?_eq_none (by omega)]
set_option maxHeartbeats 8000000 in
theorem R_SamePaths (v v' : Value) (P P' : List (List Pnt)) (w : World) (h : RPoly v P w) (h' : RPoly v' P' w) (hn : P.length ≤ 1000000) (hn' : P'.length ≤ 1000000) (hL : ∀ l ∈ P, l.length ≤ 1000000) : Calls Tryz.prog 23 #[v, v'] w fun e w' => e = .returned (.bool (decide (P = P'))) ∧ Below w.heap.size w w' := by
 have B := Below.refl w.heap.size w
 obtain ⟨a1, c1, rfl, _⟩ := h.len
 obtain ⟨a2, c2, rfl, _⟩ := h'.len
 obtain ⟨vs, r1, e1, s1⟩ := h
 obtain ⟨vs', r2, e2, s2⟩ := h'
 have R1 := Lib.hid r1
 have R2 := Lib.hid r2
 have S1 := Lib.hid s1
 have S2 := Lib.hid s2
 have HL := Lib.hid hL
 clear r1 r2 s1 s2 hL
 go_enter Tryz.func23, Tryz.ntmps23
 go_upto_region 0 with fail
 refine wp_region_lit ?_
 try simp only [gelS]
 refine wpList_chunk 1 (by kernel_rfl) ?_
 simp only [takS, Nat.reduceAdd]
 repeat (first | go_big_quiet_skip | (go_big_quiet_want; go_big_quiet_op; go_big_quiet_on))
 refine wpQuiet_nil ?_
 refine wpList_nil ?_
 go_upto_region 1 with fail
 by_cases hlen : P.length = P'.length
 ·have q0 : ((P.length : Int) != (P'.length : Int)) = false := by rw [hlen]; simp
  have q0' : ((P.length : Int) == (P'.length : Int)) = true := by rw [hlen]; simp
  refine wp_region_lit ?_
  try simp only [gelS]
  refine wpList_chunk 1 (by kernel_rfl) ?_
  simp only [takS, Nat.reduceAdd]
  repeat (first | go_big_quiet_skip | (go_big_quiet_want; go_big_quiet_op; go_big_quiet_on))
  refine wpQuiet_nil ?_
  refine wpList_lenS (by first | rfl | simp [Region.wanted, yielded]) rfl Tryz.underlying55 rfl ?_
  simp only [putS]
  refine wpList_chunk 1 (by kernel_rfl) ?_
  simp only [takS, Nat.reduceAdd]
  repeat (first | go_big_quiet_skip | (go_big_quiet_want; go_big_quiet_op; go_big_quiet_on))
  refine wpQuiet_nil ?_
  refine wpList_lenS (by first | rfl | simp [Region.wanted, yielded]) rfl Tryz.underlying55 rfl ?_
  simp only [putS]
  refine wpList_chunk 1 (by kernel_rfl) ?_
  simp only [takS, Nat.reduceAdd]
  repeat (first | go_big_quiet_skip | (go_big_quiet_want; go_big_quiet_op; go_big_quiet_on))
  refine wpQuiet_nil ?_
  refine wpList_nil ?_
  go_upto_region 3 with fail
  refine wp_region_lit ?_
  try simp only [gelS]
  refine wpList_chunk 1 (by kernel_rfl) ?_
  simp only [takS, Nat.reduceAdd]
  repeat (first | go_big_quiet_skip | (go_big_quiet_want; go_big_quiet_op; go_big_quiet_on))
  refine wpQuiet_nil ?_
  refine wpList_nil ?_
  go_wp2
  go_loopw [5, 6] (fun iv _ wr => ∃ k : Nat, k ≤ P.length ∧ iv = .int .i64 (k : Int) ∧ (∀ i, i < k → P[i]? = P'[i]?) ∧ Below w.heap.size w wr) (fun iv _ _ => (P.length - intOf iv).toNat)
  case atStart => exact ⟨0, by omega, rfl, fun i hi => absurd hi (by omega), B⟩
  case round =>
   clear B
   obtain ⟨k, hk, rfl, hall, B⟩ := hrel
   have HA := Lib.hid hall
   clear hall
   by_cases hkl : k < P.length
   ·have q1 : decide ((k : Int) < (P.length : Int)) = true := decide_eq_true (by omega)
    have q2 : decide (k < P.length) = true := decide_eq_true hkl
    have q2' : decide (k < P'.length) = true := decide_eq_true (by omega)
    have q1' : decide ((k : Int) < (P'.length : Int)) = true := decide_eq_true (by omega)
    obtain ⟨g1, o1, rfl, ce1w⟩ := R1.out.at (by omega)
    obtain ⟨g2, o2, rfl, ce2w⟩ := R2.out.at (by omega)
    obtain ⟨⟨sa, sn, sc⟩, hs1⟩ : ∃ s, vs[k]? = some s := ⟨_, List.getElem?_eq_getElem (by omega)⟩
    obtain ⟨⟨ta, tn, tc⟩, hs2⟩ : ∃ s, vs'[k]? = some s := ⟨_, List.getElem?_eq_getElem (by omega)⟩
    obtain ⟨l1, hl1⟩ : ∃ l, P[k]? = some l := ⟨_, List.getElem?_eq_getElem (by omega)⟩
    obtain ⟨l2, hl2⟩ : ∃ l, P'[k]? = some l := ⟨_, List.getElem?_eq_getElem (by omega)⟩
    have p1 := S1.out k _ _ hs1 hl1
    have p2 := S2.out k _ _ hs2 hl2
    obtain ⟨_, _, hv1, _⟩ := p1.len
    obtain ⟨_, _, hv2, _⟩ := p2.len
    simp only [Slc.v, Value.slice.injEq] at hv1 hv2
    obtain ⟨rfl, rfl, rfl⟩ := hv1
    obtain ⟨rfl, rfl, rfl⟩ := hv2
    have hb1 := HL.out l1 (List.mem_of_getElem? hl1)
    have P1 := Lib.hid p1
    have P2 := Lib.hid p2
    have ce1 := ce1w.of_eq (B.block _ ce1w.lt)
    have ce2 := ce2w.of_eq (B.block _ ce2w.lt)
    have C1 := Lib.hid ce1w
    have C2 := Lib.hid ce2w
    have KK := Lib.hid (show l1 ≠ l2 → P ≠ P' from fun e => getD_ne (i := k) (by rw [hl1, hl2]; intro h; injection h with h; exact e h))
    have KE := Lib.hid (show l1 = l2 → ∀ i, i < k + 1 → P[i]? = P'[i]? from fun e i hi => by
     by_cases hik : i = k
     ·rw [hik, hl1, hl2, e]
     ·exact HA.out i (by omega))
    clear ce1w ce2w p1 p2 hl1 hl2
    go_upto_region 4 with fail
    refine wp_region_lit ?_
    try simp only [gelS]
    refine wpList_chunk 2 (by kernel_rfl) ?_
    simp only [takS, Nat.reduceAdd]
    repeat (first | go_big_quiet_skip | (go_big_quiet_want; go_big_quiet_op; go_big_quiet_on))
    refine wpQuiet_nil ?_
    refine wpList_lenS (by first | rfl | simp [Region.wanted, yielded]) rfl Tryz.underlying55 rfl ?_
    simp only [putS]
    refine wpList_chunk 1 (by kernel_rfl) ?_
    simp only [takS, Nat.reduceAdd]
    repeat (first | go_big_quiet_skip | (go_big_quiet_want; go_big_quiet_op; go_big_quiet_on))
    refine wpQuiet_nil ?_
    refine wpList_nil ?_
    go_upto_region 6 with fail
    by_cases hll : l1.length = l2.length
    ·have q5 : ((l1.length : Int) != (l2.length : Int)) = false := by rw [hll]; simp
     have q5' : ((l1.length : Int) == (l2.length : Int)) = true := by rw [hll]; simp
     try simp only [gelS]
     try have lx_ce1 := ce1.lt
     try have lx_ce2 := ce2.lt
     refine wp_region_RL 11 [(4, detS ?v1_4), (9, detS ?v1_9)] (by kernel_rfl) (by kernel_rfl) (by kernel_rfl) ?_
     rotate_left 2
     simp only [takS, Nat.reduceAdd]
     refine wpRL_chunk 4 (by kernel_rfl) ?_
     simp only [takS, Nat.reduceAdd]
     repeat (first | go_big_quiet_skip | (go_big_quiet_want; first | (refine quiet_loadAny (t := 22) rfl _ _ _ rfl (fun w hw => rce_sl (ov_rce ce1 w hw) hs1) (by first | rfl | omega) ?_; simp only [putS]; go_big_quiet_on) | (refine quiet_loadAny (t := 22) rfl _ _ _ rfl (fun w hw => rce_sl (ov_rce ce2 w hw) hs2) (by first | rfl | omega) ?_; simp only [putS]; go_big_quiet_on) | (go_big_quiet_op; go_big_quiet_on)))
     refine wpQuiet_nil ?_
     refine wpRL_callB (by rfl) (by first | rfl | simp [Region.wanted, yielded]) ?_ ?_
     ·intro wn hbn hE Kx hKx
      have hsz := B.size
      have hzn := hbn.size
      replace B := B.trans (hbn.mono B.size)
      (try replace ce1 := ce1.below hbn)
      (try replace ce2 := ce2.below hbn)
      refine wp_lenS rfl Tryz.underlying22 rfl ?_
      exact hKx () _ trivial (Below.refl _ _)
     rintro ⟨⟩
     dsimp only [detS]
     simp only [putS]
     refine wpRL_chunk 4 (by kernel_rfl) ?_
     simp only [takS, Nat.reduceAdd]
     repeat (first | go_big_quiet_skip | (go_big_quiet_want; first | (refine quiet_loadAny (t := 22) rfl _ _ _ rfl (fun w hw => rce_sl (ov_rce ce1 w hw) hs1) (by first | rfl | omega) ?_; simp only [putS]; go_big_quiet_on) | (refine quiet_loadAny (t := 22) rfl _ _ _ rfl (fun w hw => rce_sl (ov_rce ce2 w hw) hs2) (by first | rfl | omega) ?_; simp only [putS]; go_big_quiet_on) | (go_big_quiet_op; go_big_quiet_on)))
     refine wpQuiet_nil ?_
     refine wpRL_callB (by rfl) (by first | rfl | simp [Region.wanted, yielded]) ?_ ?_
     ·intro wn hbn hE Kx hKx
      have hsz := B.size
      have hzn := hbn.size
      replace B := B.trans (hbn.mono B.size)
      (try replace ce1 := ce1.below hbn)
      (try replace ce2 := ce2.below hbn)
      refine wp_lenS rfl Tryz.underlying22 rfl ?_
      exact hKx () _ trivial (Below.refl _ _)
     rintro ⟨⟩
     dsimp only [detS]
     simp only [putS]
     refine wpRL_chunk 1 (by kernel_rfl) ?_
     simp only [takS, Nat.reduceAdd]
     repeat (first | go_big_quiet_skip | (go_big_quiet_want; go_big_quiet_op; go_big_quiet_on))
     refine wpQuiet_nil ?_
     refine wpRL_nil ?_
     intro wn hbn hE
     have hsz := B.size
     have hzn := hbn.size
     replace B := B.trans (hbn.mono B.size)
     (try replace ce1 := ce1.below hbn)
     (try replace ce2 := ce2.below hbn)
     clear hE
     try simp only [List.drop_succ_cons, List.drop_zero]
     refine NoPan.normal ?_
     go_upto_region 8 with fail
     refine wp_region_lit ?_
     try simp only [gelS]
     refine wpList_chunk 1 (by kernel_rfl) ?_
     simp only [takS, Nat.reduceAdd]
     repeat (first | go_big_quiet_skip | (go_big_quiet_want; go_big_quiet_op; go_big_quiet_on))
     refine wpQuiet_nil ?_
     refine wpList_nil ?_
     have HLL := Lib.hid hll
     clear ce1 ce2 hll q5 q5'
     go_wp2
     go_loopw [6] (fun iv wr => ∃ j : Nat, j ≤ l1.length ∧ iv = .int .i64 (j : Int) ∧ (∀ i, i < j → l1[i]? = l2[i]?) ∧ Below w.heap.size w wr) (fun iv _ => (l1.length - intOf iv).toNat)
     case atStart => exact ⟨0, by omega, rfl, fun i hi => absurd hi (by omega), B⟩
     case round =>
      clear B
      obtain ⟨j, hj, rfl, hall, B⟩ := hrel
      have HA2 := Lib.hid hall
      clear hall
      have ce1 := C1.out.of_eq (B.block _ C1.out.lt)
      have ce2 := C2.out.of_eq (B.block _ C2.out.lt)
      by_cases hjl : j < l1.length
      ·have q6 : decide ((j : Int) < (l1.length : Int)) = true := decide_eq_true (by omega)
       have q7 : decide (j < l1.length) = true := decide_eq_true hjl
       have hll := HLL.out
       have q6' : decide ((j : Int) < (l2.length : Int)) = true := decide_eq_true (by omega)
       have q7' : decide (j < l2.length) = true := decide_eq_true (by omega)
       have hjl2 : j < l2.length := by omega
       obtain ⟨ga, oa, rfl, pa0⟩ := P1.out.at (by omega)
       obtain ⟨gb, ob, rfl, pb0⟩ := P2.out.at (by omega)
       have pa := pa0.of_eq (B.block _ pa0.lt)
       have pb := pb0.of_eq (B.block _ pb0.lt)
       clear pa0 pb0
       obtain ⟨⟨x, y⟩, hx⟩ : ∃ e, l1[j]? = some e := ⟨_, List.getElem?_eq_getElem hjl⟩
       obtain ⟨⟨x', y'⟩, hx'⟩ : ∃ e, l2[j]? = some e := ⟨_, List.getElem?_eq_getElem (by omega)⟩
       clear hll
       go_upto_region 9 with fail
       refine wp_region_lit ?_
       try simp only [gelS]
       refine wpList_chunk 5 (by kernel_rfl) ?_
       simp only [takS, Nat.reduceAdd]
       repeat (first | go_big_quiet_skip | (go_big_quiet_want; first | (refine quiet_loadAny (t := 22) rfl _ _ _ rfl (fun w hw => rce_sl (ov_rce ce1 w hw) hs1) (by first | rfl | omega) ?_; simp only [putS]; go_big_quiet_on) | (go_big_quiet_op; go_big_quiet_on)))
       refine wpQuiet_nil ?_
       refine wpList_lenS (by first | rfl | simp [Region.wanted, yielded]) rfl Tryz.underlying22 rfl ?_
       simp only [putS]
       refine wpList_chunk 1 (by kernel_rfl) ?_
       simp only [takS, Nat.reduceAdd]
       repeat (first | go_big_quiet_skip | (go_big_quiet_want; go_big_quiet_op; go_big_quiet_on))
       refine wpQuiet_nil ?_
       refine wpList_nil ?_
       go_upto_region 11 with fail
       by_cases he : (x, y) = (x', y')
       ·have q9 : decide ((x, y) = (x', y')) = !false := by rw [decide_eq_true he]; rfl
        have HN := Lib.hid (show ∀ i, i < j + 1 → l1[i]? = l2[i]? from fun i hi => by
         by_cases hij : i = j
         ·rw [hij, hx, hx', he]
         ·exact HA2.out i (by omega))
        try simp only [gelS]
        try have lx_ce1 := ce1.lt
        try have lx_ce2 := ce2.lt
        try have lx_pa := pa.lt
        try have lx_pb := pb.lt
        refine wp_region_RL 15 [] (by kernel_rfl) (by kernel_rfl) (by kernel_rfl) ?_
        rotate_left 0
        simp only [takS, Nat.reduceAdd]
        refine wpRL_chunk 15 (by kernel_rfl) ?_
        simp only [takS, Nat.reduceAdd]
        repeat (first | go_big_quiet_skip | (go_big_quiet_want; first | (refine quiet_loadAny (t := 22) rfl _ _ _ rfl (fun w hw => rce_sl (ov_rce ce1 w hw) hs1) (by first | rfl | omega) ?_; simp only [putS]; go_big_quiet_on) | (refine quiet_loadAny (t := 22) rfl _ _ _ rfl (fun w hw => rce_sl (ov_rce ce2 w hw) hs2) (by first | rfl | omega) ?_; simp only [putS]; go_big_quiet_on) | (refine quiet_loadAny (t := 53) rfl _ _ _ rfl (fun w hw => rce_pt (ov_rce pa w hw) hx) (by first | rfl | omega) ?_; simp only [putS]; go_big_quiet_on) | (refine quiet_loadAny (t := 53) rfl _ _ _ rfl (fun w hw => rce_pt (ov_rce pb w hw) hx') (by first | rfl | omega) ?_; simp only [putS]; go_big_quiet_on) | (refine quiet_neqP rfl x y x' y' rfl rfl _ q9 ?_; simp only [putS]; go_big_quiet_on) | (go_big_quiet_op; go_big_quiet_on)))
        refine wpQuiet_nil ?_
        refine wpRL_nil ?_
        intro wn hbn hE
        have hsz := B.size
        have hzn := hbn.size
        replace B := B.trans (hbn.mono B.size)
        (try replace ce1 := ce1.below hbn)
        (try replace ce2 := ce2.below hbn)
        (try replace pa := pa.below hbn)
        (try replace pb := pb.below hbn)
        clear hE
        try simp only [List.drop_succ_cons, List.drop_zero]
        refine NoPan.normal ?_
        go_upto_region 10 with fail
        refine wp_region_lit ?_
        try simp only [gelS]
        refine wpList_chunk 3 (by kernel_rfl) ?_
        simp only [takS, Nat.reduceAdd]
        repeat (first | go_big_quiet_skip | (go_big_quiet_want; go_big_quiet_op; go_big_quiet_on))
        refine wpQuiet_nil ?_
        refine wpList_nil ?_
        go_wp2
        go_roundw
        case rel => exact ⟨j + 1, by omega, by go_num, HN.out, B⟩
        case measure => simp [intOf]; omega
       ·have q9 : decide ((x, y) = (x', y')) = !true := by rw [decide_eq_false he]; rfl
        have HF := Lib.hid (KK.out (getD_ne (i := j) (by rw [hx, hx']; intro h; injection h with h; exact he h)))
        try simp only [gelS]
        try have lx_ce1 := ce1.lt
        try have lx_ce2 := ce2.lt
        try have lx_pa := pa.lt
        try have lx_pb := pb.lt
        refine wp_region_RL 15 [] (by kernel_rfl) (by kernel_rfl) (by kernel_rfl) ?_
        rotate_left 0
        simp only [takS, Nat.reduceAdd]
        refine wpRL_chunk 15 (by kernel_rfl) ?_
        simp only [takS, Nat.reduceAdd]
        repeat (first | go_big_quiet_skip | (go_big_quiet_want; first | (refine quiet_loadAny (t := 22) rfl _ _ _ rfl (fun w hw => rce_sl (ov_rce ce1 w hw) hs1) (by first | rfl | omega) ?_; simp only [putS]; go_big_quiet_on) | (refine quiet_loadAny (t := 22) rfl _ _ _ rfl (fun w hw => rce_sl (ov_rce ce2 w hw) hs2) (by first | rfl | omega) ?_; simp only [putS]; go_big_quiet_on) | (refine quiet_loadAny (t := 53) rfl _ _ _ rfl (fun w hw => rce_pt (ov_rce pa w hw) hx) (by first | rfl | omega) ?_; simp only [putS]; go_big_quiet_on) | (refine quiet_loadAny (t := 53) rfl _ _ _ rfl (fun w hw => rce_pt (ov_rce pb w hw) hx') (by first | rfl | omega) ?_; simp only [putS]; go_big_quiet_on) | (refine quiet_neqP rfl x y x' y' rfl rfl _ q9 ?_; simp only [putS]; go_big_quiet_on) | (go_big_quiet_op; go_big_quiet_on)))
        refine wpQuiet_nil ?_
        refine wpRL_nil ?_
        intro wn hbn hE
        have hsz := B.size
        have hzn := hbn.size
        replace B := B.trans (hbn.mono B.size)
        (try replace ce1 := ce1.below hbn)
        (try replace ce2 := ce2.below hbn)
        clear hE
        try simp only [List.drop_succ_cons, List.drop_zero]
        refine NoPan.normal ?_
        go_upto_region 12 with fail
        refine wp_region_lit ?_
        try simp only [gelS]
        refine wpList_chunk 1 (by kernel_rfl) ?_
        simp only [takS, Nat.reduceAdd]
        repeat (first | go_big_quiet_skip | (go_big_quiet_want; go_big_quiet_op; go_big_quiet_on))
        refine wpQuiet_nil ?_
        refine wpList_nil ?_
        go_wp2
        go_ret
        exact ⟨by rw [decide_eq_false HF.out]; rfl, B⟩
      ·obtain rfl : j = l1.length := by omega
       have q6 : decide (((l1.length : Nat) : Int) < (l1.length : Int)) = false := decide_eq_false (by omega)
       have q7 : decide (l1.length < l1.length) = false := decide_eq_false (by omega)
       have HN := Lib.hid (KE.out (all_eq HLL.out HA2.out))
       go_upto_region 9 with fail
       refine wp_region_lit ?_
       try simp only [gelS]
       refine wpList_chunk 5 (by kernel_rfl) ?_
       simp only [takS, Nat.reduceAdd]
       repeat (first | go_big_quiet_skip | (go_big_quiet_want; first | (refine quiet_loadAny (t := 22) rfl _ _ _ rfl (fun w hw => rce_sl (ov_rce ce1 w hw) hs1) (by first | rfl | omega) ?_; simp only [putS]; go_big_quiet_on) | (go_big_quiet_op; go_big_quiet_on)))
       refine wpQuiet_nil ?_
       refine wpList_lenS (by first | rfl | simp [Region.wanted, yielded]) rfl Tryz.underlying22 rfl ?_
       simp only [putS]
       refine wpList_chunk 1 (by kernel_rfl) ?_
       simp only [takS, Nat.reduceAdd]
       repeat (first | go_big_quiet_skip | (go_big_quiet_want; go_big_quiet_op; go_big_quiet_on))
       refine wpQuiet_nil ?_
       refine wpList_nil ?_
       go_upto_region 5 with fail
       refine wp_region_lit ?_
       try simp only [gelS]
       refine wpList_chunk 3 (by kernel_rfl) ?_
       simp only [takS, Nat.reduceAdd]
       repeat (first | go_big_quiet_skip | (go_big_quiet_want; go_big_quiet_op; go_big_quiet_on))
       refine wpQuiet_nil ?_
       refine wpList_nil ?_
       go_wp2
       go_roundw
       case rel => exact ⟨k + 1, by omega, by go_num, HN.out, B⟩
       case measure => simp [intOf]; omega
    ·have q5 : ((l1.length : Int) != (l2.length : Int)) = true := by simp; omega
     have q5' : ((l1.length : Int) == (l2.length : Int)) = false := by simp; omega
     have HF := Lib.hid (KK.out (fun e => hll (by rw [e])))
     try simp only [gelS]
     try have lx_ce1 := ce1.lt
     try have lx_ce2 := ce2.lt
     refine wp_region_RL 11 [(4, detS ?v4_4), (9, detS ?v4_9)] (by kernel_rfl) (by kernel_rfl) (by kernel_rfl) ?_
     rotate_left 2
     simp only [takS, Nat.reduceAdd]
     refine wpRL_chunk 4 (by kernel_rfl) ?_
     simp only [takS, Nat.reduceAdd]
     repeat (first | go_big_quiet_skip | (go_big_quiet_want; first | (refine quiet_loadAny (t := 22) rfl _ _ _ rfl (fun w hw => rce_sl (ov_rce ce1 w hw) hs1) (by first | rfl | omega) ?_; simp only [putS]; go_big_quiet_on) | (refine quiet_loadAny (t := 22) rfl _ _ _ rfl (fun w hw => rce_sl (ov_rce ce2 w hw) hs2) (by first | rfl | omega) ?_; simp only [putS]; go_big_quiet_on) | (go_big_quiet_op; go_big_quiet_on)))
     refine wpQuiet_nil ?_
     refine wpRL_callB (by rfl) (by first | rfl | simp [Region.wanted, yielded]) ?_ ?_
     ·intro wn hbn hE Kx hKx
      have hsz := B.size
      have hzn := hbn.size
      replace B := B.trans (hbn.mono B.size)
      (try replace ce1 := ce1.below hbn)
      (try replace ce2 := ce2.below hbn)
      refine wp_lenS rfl Tryz.underlying22 rfl ?_
      exact hKx () _ trivial (Below.refl _ _)
     rintro ⟨⟩
     dsimp only [detS]
     simp only [putS]
     refine wpRL_chunk 4 (by kernel_rfl) ?_
     simp only [takS, Nat.reduceAdd]
     repeat (first | go_big_quiet_skip | (go_big_quiet_want; first | (refine quiet_loadAny (t := 22) rfl _ _ _ rfl (fun w hw => rce_sl (ov_rce ce1 w hw) hs1) (by first | rfl | omega) ?_; simp only [putS]; go_big_quiet_on) | (refine quiet_loadAny (t := 22) rfl _ _ _ rfl (fun w hw => rce_sl (ov_rce ce2 w hw) hs2) (by first | rfl | omega) ?_; simp only [putS]; go_big_quiet_on) | (go_big_quiet_op; go_big_quiet_on)))
     refine wpQuiet_nil ?_
     refine wpRL_callB (by rfl) (by first | rfl | simp [Region.wanted, yielded]) ?_ ?_
     ·intro wn hbn hE Kx hKx
      have hsz := B.size
      have hzn := hbn.size
      replace B := B.trans (hbn.mono B.size)
      refine wp_lenS rfl Tryz.underlying22 rfl ?_
      exact hKx () _ trivial (Below.refl _ _)
     rintro ⟨⟩
     dsimp only [detS]
     simp only [putS]
     refine wpRL_chunk 1 (by kernel_rfl) ?_
     simp only [takS, Nat.reduceAdd]
     repeat (first | go_big_quiet_skip | (go_big_quiet_want; go_big_quiet_op; go_big_quiet_on))
     refine wpQuiet_nil ?_
     refine wpRL_nil ?_
     intro wn hbn hE
     have hsz := B.size
     have hzn := hbn.size
     replace B := B.trans (hbn.mono B.size)
     clear hE
     try simp only [List.drop_succ_cons, List.drop_zero]
     refine NoPan.normal ?_
     go_upto_region 7 with fail
     refine wp_region_lit ?_
     try simp only [gelS]
     refine wpList_chunk 1 (by kernel_rfl) ?_
     simp only [takS, Nat.reduceAdd]
     repeat (first | go_big_quiet_skip | (go_big_quiet_want; go_big_quiet_op; go_big_quiet_on))
     refine wpQuiet_nil ?_
     refine wpList_nil ?_
     go_wp2
     go_ret
     exact ⟨by rw [decide_eq_false HF.out]; rfl, B⟩
   ·obtain rfl : k = P.length := by omega
    have q1 : decide (((P.length : Nat) : Int) < (P.length : Int)) = false := decide_eq_false (by omega)
    have q2 : decide (P.length < P.length) = false := decide_eq_false (by omega)
    have HE := Lib.hid (all_eq hlen HA.out)
    go_upto_region 4 with fail
    refine wp_region_lit ?_
    try simp only [gelS]
    refine wpList_chunk 2 (by kernel_rfl) ?_
    simp only [takS, Nat.reduceAdd]
    repeat (first | go_big_quiet_skip | (go_big_quiet_want; go_big_quiet_op; go_big_quiet_on))
    refine wpQuiet_nil ?_
    refine wpList_lenS (by first | rfl | simp [Region.wanted, yielded]) rfl Tryz.underlying55 rfl ?_
    simp only [putS]
    refine wpList_chunk 1 (by kernel_rfl) ?_
    simp only [takS, Nat.reduceAdd]
    repeat (first | go_big_quiet_skip | (go_big_quiet_want; go_big_quiet_op; go_big_quiet_on))
    refine wpQuiet_nil ?_
    refine wpList_nil ?_
    go_upto_region 13 with fail
    refine wp_region_lit ?_
    try simp only [gelS]
    refine wpList_chunk 1 (by kernel_rfl) ?_
    simp only [takS, Nat.reduceAdd]
    repeat (first | go_big_quiet_skip | (go_big_quiet_want; go_big_quiet_op; go_big_quiet_on))
    refine wpQuiet_nil ?_
    refine wpList_nil ?_
    go_wp2
    go_ret
    exact ⟨by rw [decide_eq_true HE.out]; rfl, B⟩
 ·have q0 : ((P.length : Int) != (P'.length : Int)) = true := by simp; omega
  have q0' : ((P.length : Int) == (P'.length : Int)) = false := by simp; omega
  have HF := Lib.hid (show P ≠ P' from fun e => hlen (by rw [e]))
  refine wp_region_lit ?_
  try simp only [gelS]
  refine wpList_chunk 1 (by kernel_rfl) ?_
  simp only [takS, Nat.reduceAdd]
  repeat (first | go_big_quiet_skip | (go_big_quiet_want; go_big_quiet_op; go_big_quiet_on))
  refine wpQuiet_nil ?_
  refine wpList_lenS (by first | rfl | simp [Region.wanted, yielded]) rfl Tryz.underlying55 rfl ?_
  simp only [putS]
  refine wpList_chunk 1 (by kernel_rfl) ?_
  simp only [takS, Nat.reduceAdd]
  repeat (first | go_big_quiet_skip | (go_big_quiet_want; go_big_quiet_op; go_big_quiet_on))
  refine wpQuiet_nil ?_
  refine wpList_lenS (by first | rfl | simp [Region.wanted, yielded]) rfl Tryz.underlying55 rfl ?_
  simp only [putS]
  refine wpList_chunk 1 (by kernel_rfl) ?_
  simp only [takS, Nat.reduceAdd]
  repeat (first | go_big_quiet_skip | (go_big_quiet_want; go_big_quiet_op; go_big_quiet_on))
  refine wpQuiet_nil ?_
  refine wpList_nil ?_
  go_upto_region 2 with fail
  refine wp_region_lit ?_
  try simp only [gelS]
  refine wpList_chunk 1 (by kernel_rfl) ?_
  simp only [takS, Nat.reduceAdd]
  repeat (first | go_big_quiet_skip | (go_big_quiet_want; go_big_quiet_op; go_big_quiet_on))
  refine wpQuiet_nil ?_
  refine wpList_nil ?_
  go_wp2
  go_ret
  exact ⟨by rw [decide_eq_false HF.out]; rfl, B⟩
end Go.Proofs.YtamgpfblhlfhaaaGreat
/- Contract of Outline. -/
namespace Go.Proofs.YtamgpfblhlfhaaaGreat
open Go.RowKit Go.Shelf Pl
attribute [local go_sem] Oper.semAt_some
set_option linter.unusedVariables false
set_option linter.unusedSimpArgs false
set_option maxRecDepth 20000
section
variable {ops : Array Oper} {rest : List Oper} {o : Oper} {a : Act} {w : World} {Q : Exit → Act → World → Prop}
theorem wpList_look (hg : o.guard = none) (m x : Operand) (hop : o.op = .lookup 87 m x false) {b : Nat} {L : List Ed} (hm : a.eval m = .map (some b)) (hd : DoneM b L w) (e : Ed) (hx : a.eval x = .agg (edC e)) (he : WfE e) (c : Bool) (hc : decide (e ∈ L) = c)
  (h : wpList Tryz.prog ops Q rest (a.put o.dst (.bool c)) w) : wpList Tryz.prog ops Q (o :: rest) a w :=
 wpList_plain hg fun K hK => by
  have e1 : (execOp a.eval o).run Tryz.prog w = .ok (.value (.bool c)) w := by
   obtain ⟨d, p, t, ps, af, gd⟩ := o
   simp only at hop
   subst hop
   have := hd.look he
   rw [hc] at this
   simp only [execOp, hm, hx, Sem.run_bind, this, Sem.run_pure, Result.andThen_ok]
  unfold Oper.wp
  rw [e1]
  exact hK _ _ h
end
/-- What lies in memory between two rounds of Outline. -/
def OutF (w wI : World) (r t p5 p6 m p8 : Nat) (R : Rc) (st : ScSt) (vo : Value) (ds : List Deferred) (W : World) : Prop :=
 AtB 86 W p5 #[fB r t] ∧ AtB 87 W p6 #[.map (some m)] ∧ AtB 30 W p8 (rcA R) ∧ HoldC wI.heap.size wI W ∧ DoneM m st.1 W ∧ OwnP p8 vo st.2 W ∧ Marks p8 ds W ∧ Below w.heap.size w W
theorem OutF.below {w wI : World} {r t p5 p6 m p8 : Nat} {R : Rc} {st : ScSt} {vo : Value} {ds : List Deferred} {W W' : World} (h : OutF w wI r t p5 p6 m p8 R st vo ds W) (hb : Below W.heap.size W W') : OutF w wI r t p5 p6 m p8 R st vo ds W' := by
 obtain ⟨h1, h2, h3, h4, h5, h6, h7, h8⟩ := h
 exact ⟨h1.of_eq (hb.block _ h1.lt), h2.of_eq (hb.block _ h2.lt), h3.of_eq (hb.block _ h3.lt), h4.below hb, h5.below hb, h6.below hb, h7.below hb, h8.trans (hb.mono h8.size)⟩
/-- A polygon is appended. -/
theorem OutF.turn {w wI : World} {r t p5 p6 m p8 : Nat} {R : Rc} {L : List Ed} {P P' : List (List Pnt)} {vo vo' : Value} {ds : List Deferred} {W W' : World} (h : OutF w wI r t p5 p6 m p8 R (L, P) vo ds W) (hg : W.grownBy W' vo.ownBlock) (ho : wI.heap.size ≤ p8 ∧ w.heap.size ≤ p8 ∧ p5 < p8 ∧ p6 < p8 ∧ m < p8) (hp : OwnP p8 vo' P' W') : OutF w wI r t p5 p6 m p8 R (L, P') vo' ds W' := by
 obtain ⟨h1, h2, h3, h4, h5, h6, h7, h8⟩ := h
 have hb : ∀ r, vo.ownBlock = some r → p8 ≤ r := fun r e => (h6.blk e).1
 refine ⟨h1.of_eq (hg.block _ h1.lt (fun e => by have := hb _ e.symm; omega)), h2.of_eq (hg.block _ h2.lt (fun e => by have := hb _ e.symm; omega)), h3.of_eq (hg.block _ h3.lt (fun e => ?_)), h4.grown hg (fun r e => by have := hb r e; omega), h5.kept hg (fun e => by have := hb _ e.symm; omega), hp, h7.kept (fun D hD _ => hD.of_eq (hg.block _ hD.lt (fun e => ?_))), Below.grown' h8 (Nat.le_refl _) hg (fun r e => by have := hb r e; omega)⟩
 ·obtain ⟨_, _, cur, hc⟩ := h6.blk e.symm
  rw [show W.heap[p8]? = _ from h3] at hc
  injection hc with hc
  injection hc with _ hc
  revert hc
  decide
 ·obtain ⟨_, _, cur, hc⟩ := h6.blk e.symm
  rw [show W.heap[D]? = _ from hD] at hc
  cases hc
/-- The slots that are read again. -/
def OutT (r t p5 p6 p8 : Nat) (vo : Value) (a : Act) : Prop :=
 a.tmps.size = 103 ∧ a.tmps.getD 2 undef = .pointer (some ⟨r, 0, none⟩) ∧ a.tmps.getD 3 undef = .pointer (some ⟨t, 0, none⟩) ∧ a.tmps.getD 5 undef = .pointer (some ⟨p5, 0, none⟩) ∧ a.tmps.getD 6 undef = .pointer (some ⟨p6, 0, none⟩) ∧ a.tmps.getD 7 undef = vo ∧ a.tmps.getD 8 undef = .pointer (some ⟨p8, 0, none⟩)
set_option maxHeartbeats 16000000 in
theorem P_Outline1 (v : Value) (ls : List TA) (th : Int) (w : World) (h : RS v ls w) (tk : TokL ls) (hn : ls.length ≤ maxLen) (hv : validL ls = true) (h0 : 1 ≤ th) (hwf : (Lit.int .i64 th).wf = true) (hR : -100 ≤ (boundL ls).x0 ∧ (boundL ls).x1 ≤ 100 ∧ -100 ≤ (boundL ls).y0 ∧ (boundL ls).y1 ≤ 100) : Calls Tryz.prog 22 #[.agg #[v], .int .i64 th] w fun e w' => ∃ v', e = .returned v' ∧ RPoly v' (outlG (setG ls th) (boundL ls)) w' ∧ Below w.heap.size w w' := by
 have B := Below.refl w.heap.size w
 have rs := h
 have q1 : decide (th < 1) = false := decide_eq_false (by omega)
 have HBX := Lib.hid (setG_box ls h0)
 have HSM := Lib.hid hR
 have TK := Lib.hid tk
 clear h
 refine (callsIn_wide (n := 3)).1 ?_
 refine callsIn_of_wp_marks Tryz.func22 rfl trivial ?_ rfl
 simp only [Tryz.ntmps22, List.size_toArray, List.length_cons, List.length_nil, Nat.reduceAdd, Nat.reduceSub, Array.replicate_succ, Array.replicate_zero, List.push_toArray, List.append_toArray, List.nil_append, List.cons_append]
 refine wpIn_wide.2 ?_
 go_upto_region 0 with fail
 refine wp_region_lit ?_
 try simp only [gelS]
 (refine wpList_boxB (t := 34) rfl _ rfl _ rfl ?_; intro b_r2 wn hle hge ht hbn hzn; have hsz := B.size; replace B := B.trans (hbn.mono (by omega)); have hln := Nat.lt_of_lt_of_eq (Nat.lt_succ_self _) hzn.symm; clear hzn; (try have hlt := rs.lt); (try replace rs := rs.below (hbn.mono hle)); have r2 := ht; clear ht; simp only [putS])
 (refine wpList_boxV (t := 3) rfl _ rfl (.int .i64 th) rfl rfl ?_; intro b_r3 wn hle hge ht hbn hzn; have hsz := B.size; replace B := B.trans (hbn.mono (by omega)); have hln := Nat.lt_of_lt_of_eq (Nat.lt_succ_self _) hzn.symm; clear hzn; (try have hlt := r2.lt); (try replace r2 := r2.below (hbn.mono hle)); (try have hlt := rs.lt); (try replace rs := rs.below (hbn.mono hle)); have r3 := ht; clear ht; simp only [putS])
 refine wpList_chunk 1 (by kernel_rfl) ?_
 simp only [takS, Nat.reduceAdd]
 repeat (first | go_big_quiet_skip | (go_big_quiet_want; go_big_quiet_op; go_big_quiet_on))
 refine wpQuiet_nil ?_
 refine wpList_nil ?_
 obtain ⟨wI, hwI⟩ : ∃ x, x = wn := ⟨_, rfl⟩
 subst hwI
 have HI := Lib.hid (show InB b_r2 b_r3 ls th wI from ⟨v, r2, r3, rs⟩)
 have HW := HoldC.of_below (Below.refl wI.heap.size wI)
 have n0I := B.size
 go_upto_region 1 with fail
 refine wp_region_lit ?_
 try simp only [gelS]
 refine wpList_chunk 4 (by kernel_rfl) ?_
 simp only [takS, Nat.reduceAdd]
 repeat (first | go_big_quiet_skip | (go_big_quiet_want; first | (refine quiet_loadAny (t := 34) rfl _ _ _ rfl (fun w hw => run_load_ras ((ov_B r2 w hw).cellL 0 rfl)) (by first | rfl | omega) ?_; simp only [putS]; go_big_quiet_on) | (refine quiet_loadAny (t := 3) rfl _ _ _ rfl (fun w hw => run_load_int ((ov_B r3 w hw).cellL 0 rfl)) (by first | rfl | omega) ?_; simp only [putS]; go_big_quiet_on) | (go_big_quiet_op; go_big_quiet_on)))
 refine wpQuiet_nil ?_
 refine wpList_callF (by first | rfl | simp [Region.wanted, yielded]) rfl (enters_of Tryz.func56 (by kernel_rfl) rfl) (by simp only [Act.eval, evlS]; rfl) ?_
 refine (P_ValidB v ls true _ rs TK.out hn hv).mono ?_
 rintro e wn ⟨rfl, hbn⟩
 have hsz := B.size
 have hzn := hbn.size
 replace B := B.trans (hbn.mono B.size)
 (try replace HW := HW.below hbn)
 (try replace rs := rs.below hbn)
 (try replace r2 := r2.below hbn)
 (try replace r3 := r3.below hbn)
 refine ⟨_, rfl, ?_⟩
 simp only [putS]
 refine wpList_chunk 2 (by kernel_rfl) ?_
 simp only [takS, Nat.reduceAdd]
 repeat (first | go_big_quiet_skip | (go_big_quiet_want; go_big_quiet_op; go_big_quiet_on))
 refine wpQuiet_nil ?_
 refine wpList_nil ?_
 go_upto_region 3 with fail
 refine wp_region_lit ?_
 try simp only [gelS]
 (refine wpList_val rfl (.func (.func 57) #[] #[.pointer (some ⟨b_r2, 0, none⟩), .pointer (some ⟨b_r3, 0, none⟩)]) (by first | rfl | simp [go_sem, Act.eval]) ?_; simp only [putS])
 refine wpList_chunk 1 (by kernel_rfl) ?_
 simp only [takS, Nat.reduceAdd]
 repeat (first | go_big_quiet_skip | (go_big_quiet_want; go_big_quiet_op; go_big_quiet_on))
 refine wpQuiet_nil ?_
 (refine wpList_allocBk (t := 86) rfl _ (run_alloc_Bd _ _ rfl) ?_; intro b_p5 wn hle hge ht hbn hzn; have hsz := B.size; replace B := B.trans (hbn.mono (by omega)); have hln := Nat.lt_of_lt_of_eq (Nat.lt_succ_self _) hzn.symm; clear hzn; (try have hlt := HW.lt); (try replace HW := HW.below (hbn.mono hle)); (try have hlt := rs.lt); (try replace rs := rs.below (hbn.mono hle)); (try have hlt := r2.lt); (try replace r2 := r2.below (hbn.mono hle)); have p5 := ht; clear ht; simp only [putS])
 (refine wpList_storeB (t := 86) rfl _ _ rfl _ rfl _ rfl p5 (by kernel_rfl) rfl (by kernel_rfl) ?_; have p5o := p5; have p5o := p5; clear p5; intro wn ht hcn hzn; (try replace rs := rs.chg p5o (by simp) hcn); (try replace HW := HW.chg p5o (by omega) hcn); have hsz := B.size; replace hzn := Nat.le_of_eq hzn.symm; replace B := Chg.below B hcn (by omega) B.size; (try replace HW := HW.of_eq (hcn.block _ HW.lt (by omega))); (try replace rs := rs.of_eq (hcn.block _ rs.lt (by omega))); (try replace r2 := r2.of_eq (hcn.block _ r2.lt (by omega))); have p5 := ht; clear ht; simp only [putS])
 refine wpList_nil ?_
 replace p5 : AtB 86 _ b_p5 #[fB b_r2 b_r3] := p5
 have kp5 := p5.lt
 go_upto_region 4 with fail
 refine wp_region_lit ?_
 try simp only [gelS]
 (refine wpList_mkMap rfl rfl ?_; intro b_dm wn hle hge ht hbn hzn; have hsz := B.size; replace B := B.trans (hbn.mono (by omega)); have hln := Nat.lt_of_lt_of_eq (Nat.lt_succ_self _) hzn.symm; clear hzn; (try have hlt := HW.lt); (try replace HW := HW.below (hbn.mono hle)); (try have hlt := rs.lt); (try replace rs := rs.below (hbn.mono hle)); (try have hlt := r2.lt); (try replace r2 := r2.below (hbn.mono hle)); (try have hlt := p5.lt); (try replace p5 := p5.below (hbn.mono hle)); have dm := ht; clear ht; simp only [putS])
 (refine wpList_allocBk (t := 87) rfl _ (run_alloc_Mv _ _ rfl) ?_; intro b_p6 wn hle hge ht hbn hzn; have hsz := B.size; replace B := B.trans (hbn.mono (by omega)); have hln := Nat.lt_of_lt_of_eq (Nat.lt_succ_self _) hzn.symm; clear hzn; (try have hlt := HW.lt); (try replace HW := HW.below (hbn.mono hle)); (try have hlt := rs.lt); (try replace rs := rs.below (hbn.mono hle)); (try have hlt := r2.lt); (try replace r2 := r2.below (hbn.mono hle)); (try have hlt := p5.lt); (try replace p5 := p5.below (hbn.mono hle)); (try have hlt := dm.lt); (try replace dm := dm.below (hbn.mono hle)); have p6 := ht; clear ht; simp only [putS])
 (refine wpList_storeMv rfl _ _ rfl _ _ rfl rfl p6 ?_; have p6o := p6; have p6o := p6; have p6o := p6; clear p6; intro wn ht hcn hzn; (try replace dm := dm.chg p6o trivial hcn); (try replace rs := rs.chg p6o (by simp) hcn); (try replace HW := HW.chg p6o (by omega) hcn); have hsz := B.size; replace hzn := Nat.le_of_eq hzn.symm; replace B := Chg.below B hcn (by omega) B.size; (try replace HW := HW.of_eq (hcn.block _ HW.lt (by omega))); (try replace rs := rs.of_eq (hcn.block _ rs.lt (by omega))); (try replace r2 := r2.of_eq (hcn.block _ r2.lt (by omega))); (try replace p5 := p5.of_eq (hcn.block _ p5.lt (by omega))); have p6 := ht; clear ht; simp only [putS])
 refine wpList_nil ?_
 have kp6 := p6.lt
 have kdm := dm.lt
 go_upto_region 5 with fail
 refine wp_region_lit ?_
 try simp only [gelS]
 refine wpList_chunk 1 (by kernel_rfl) ?_
 simp only [takS, Nat.reduceAdd]
 repeat (first | go_big_quiet_skip | (go_big_quiet_want; go_big_quiet_op; go_big_quiet_on))
 refine wpQuiet_nil ?_
 refine wpList_nil ?_
 go_upto_region 6 with fail
 refine wp_region_lit ?_
 try simp only [gelS]
 refine wpList_chunk 1 (by kernel_rfl) ?_
 simp only [takS, Nat.reduceAdd]
 repeat (first | go_big_quiet_skip | (go_big_quiet_want; first | (refine quiet_loadAny (t := 34) rfl _ _ _ rfl (fun w hw => run_load_ras ((ov_B r2 w hw).cellL 0 rfl)) (by first | rfl | omega) ?_; simp only [putS]; go_big_quiet_on) | (go_big_quiet_op; go_big_quiet_on)))
 refine wpQuiet_nil ?_
 refine wpList_callF (by first | rfl | simp [Region.wanted, yielded]) rfl (enters_of Tryz.func59 (by kernel_rfl) rfl) (by simp only [Act.eval, evlS]; rfl) ?_
 refine (P_BoundsV v ls _ rs TK.out hn hv).mono ?_
 rintro e wn ⟨rfl, hbn⟩
 have hsz := B.size
 have hzn := hbn.size
 replace B := B.trans (hbn.mono B.size)
 (try replace HW := HW.below hbn)
 (try replace rs := rs.below hbn)
 (try replace r2 := r2.below hbn)
 (try replace p5 := p5.below hbn)
 (try replace p6 := p6.below hbn)
 (try replace dm := dm.below hbn)
 (try replace r2 := r2.below hbn)
 refine ⟨_, rfl, ?_⟩
 simp only [putS]
 (refine wpList_allocBk (t := 30) rfl _ (run_alloc_Rc _ _ rfl) ?_; intro b_p8 wn hle hge ht hbn hzn; have hsz := B.size; replace B := B.trans (hbn.mono (by omega)); have hln := Nat.lt_of_lt_of_eq (Nat.lt_succ_self _) hzn.symm; clear hzn; (try have hlt := HW.lt); (try replace HW := HW.below (hbn.mono hle)); (try have hlt := rs.lt); (try replace rs := rs.below (hbn.mono hle)); (try have hlt := r2.lt); (try replace r2 := r2.below (hbn.mono hle)); (try have hlt := p5.lt); (try replace p5 := p5.below (hbn.mono hle)); (try have hlt := p6.lt); (try replace p6 := p6.below (hbn.mono hle)); (try have hlt := dm.lt); (try replace dm := dm.below (hbn.mono hle)); have p8 := ht; clear ht; simp only [putS])
 (refine wpList_storeB (t := 30) rfl _ _ rfl _ rfl _ rfl p8 (by kernel_rfl) rfl (by simp [rcA, Value.oneCell']) ?_; have p8o := p8; have p8o := p8; have p8o := p8; clear p8; intro wn ht hcn hzn; (try replace dm := dm.chg p8o trivial hcn); (try replace rs := rs.chg p8o (by simp [rcA]) hcn); (try replace HW := HW.chg p8o (by omega) hcn); have hsz := B.size; replace hzn := Nat.le_of_eq hzn.symm; replace B := Chg.below B hcn (by omega) B.size; (try replace HW := HW.of_eq (hcn.block _ HW.lt (by omega))); (try replace rs := rs.of_eq (hcn.block _ rs.lt (by omega))); (try replace r2 := r2.of_eq (hcn.block _ r2.lt (by omega))); (try replace p5 := p5.of_eq (hcn.block _ p5.lt (by omega))); (try replace p6 := p6.of_eq (hcn.block _ p6.lt (by omega))); (try replace dm := dm.of_eq (hcn.block _ dm.lt (by omega))); have p8 := ht; clear ht; simp only [putS])
 refine wpList_nil ?_
 replace p8 : AtB 30 _ b_p8 (rcA (boundL ls)) := p8
 have kp8 := p8.lt
 have hbI : wI.heap.size ≤ b_p5 ∧ b_p5 < b_dm ∧ b_dm < b_p6 ∧ b_p6 < b_p8 := by omega
 have hb0 : w.heap.size ≤ b_dm := by omega
 obtain ⟨⟨X0, Y0, X1, Y1⟩, hRR⟩ : ∃ r, boundL ls = r := ⟨_, rfl⟩
 have HRR := Lib.hid hRR
 rw [hRR] at p8 HBX HSM hR
 rw [hRR]
 simp only at hR
 replace p8 : AtB 30 _ b_p8 #[.int .i64 X0, .int .i64 Y0, .int .i64 X1, .int .i64 Y1] := p8
 have hF : OutF w wI b_r2 b_r3 b_p5 b_p6 b_dm b_p8 ⟨X0, Y0, X1, Y1⟩ (scanY (setG ls th) ⟨X0, Y0, X1, Y1⟩ 0) (.slice none 0 0) [] wn := ⟨p5, p6, p8, HW, dm, OwnP.nil _ _, trivial, B⟩
 obtain ⟨H, hH⟩ : ∃ H : Nat, (Y1 - Y0).toNat = H := ⟨_, rfl⟩
 obtain ⟨Wd, hWd⟩ : ∃ H : Nat, (X1 - X0).toNat = H := ⟨_, rfl⟩
 go_upto_region 7 with fail
 refine wp_region_lit ?_
 try simp only [gelS]
 refine wpList_chunk 3 (by kernel_rfl) ?_
 simp only [takS, Nat.reduceAdd]
 repeat (first | go_big_quiet_skip | (go_big_quiet_want; first | (refine quiet_loadAny (t := 3) rfl _ _ _ rfl (fun w hw => run_load_int ((ov_B p8 w hw).cellL 1 rfl)) (by first | rfl | omega) ?_; simp only [putS]; go_big_quiet_on) | (go_big_quiet_op; go_big_quiet_on)))
 refine wpQuiet_nil ?_
 refine wpList_nil ?_
 clear rs r2 r3 p5 p6 p8 dm HW B kp5 kp6 kdm kp8 hRR hv
 go_wp2
 refine wp_loop (fun a W => ∃ (ky : Nat) (vo : Value), ky ≤ H ∧ OutT b_r2 b_r3 b_p5 b_p6 b_p8 vo a ∧ a.tmps.getD 9 undef = .int .i64 (Y0 + (ky : Int)) ∧ OutF w wI b_r2 b_r3 b_p5 b_p6 b_dm b_p8 ⟨X0, Y0, X1, Y1⟩ (scanY (setG ls th) ⟨X0, Y0, X1, Y1⟩ ky) vo a.defers W) (fun a _ => (Y1 - intOf (a.tmps.getD 9 undef)).toNat) ?start ?yround
 case start => exact ⟨0, _, Nat.zero_le _, ⟨rfl, rfl, rfl, rfl, rfl, rfl, rfl⟩, by simp, hF⟩
 case yround =>
  clear hF
  rintro ⟨tm, ds⟩ W ⟨ky, vo, hky, ⟨e0, e2, e3, e5, e6, e7, e8⟩, e9, hF⟩
  obtain ⟨U, hU, hUi⟩ := arr_fn tm 103 e0
  dsimp only at e2 e3 e5 e6 e7 e8 e9 hF
  rw [← hUi] at e2 e3 e5 e6 e7 e8 e9
  have eL : ((List.range 103).map U).toArray = #[U 0, U 1, U 2, U 3, U 4, U 5, U 6, U 7, U 8, U 9, U 10, U 11, U 12, U 13, U 14, U 15, U 16, U 17, U 18, U 19, U 20, U 21, U 22, U 23, U 24, U 25, U 26, U 27, U 28, U 29, U 30, U 31, U 32, U 33, U 34, U 35, U 36, U 37, U 38, U 39, U 40, U 41, U 42, U 43, U 44, U 45, U 46, U 47, U 48, U 49, U 50, U 51, U 52, U 53, U 54, U 55, U 56, U 57, U 58, U 59, U 60, U 61, U 62, U 63, U 64, U 65, U 66, U 67, U 68, U 69, U 70, U 71, U 72, U 73, U 74, U 75, U 76, U 77, U 78, U 79, U 80, U 81, U 82, U 83, U 84, U 85, U 86, U 87, U 88, U 89, U 90, U 91, U 92, U 93, U 94, U 95, U 96, U 97, U 98, U 99, U 100, U 101, U 102] := rfl
  rw [eL] at hU
  rw [e2, e3, e5, e6, e7, e8, e9] at hU
  subst hU
  clear e0 e2 e3 e5 e6 e7 e8 e9 hUi eL
  by_cases hkH : ky < H
  ·have q2 : decide (Y0 + (ky : Int) < Y1) = true := decide_eq_true (by omega)
   have p8 : AtB 30 W b_p8 #[.int .i64 X0, .int .i64 Y0, .int .i64 X1, .int .i64 Y1] := hF.2.2.1
   go_upto_region 8 with fail
   refine wp_region_lit ?_
   try simp only [gelS]
   refine wpList_chunk 4 (by kernel_rfl) ?_
   simp only [takS, Nat.reduceAdd]
   repeat (first | go_big_quiet_skip | (go_big_quiet_want; first | (refine quiet_loadAny (t := 3) rfl _ _ _ rfl (fun w hw => run_load_int ((ov_B p8 w hw).cellL 3 rfl)) (by first | rfl | omega) ?_; simp only [putS]; go_big_quiet_on) | (go_big_quiet_op; go_big_quiet_on)))
   refine wpQuiet_nil ?_
   refine wpList_nil ?_
   go_upto_region 10 with fail
   refine wp_region_lit ?_
   try simp only [gelS]
   refine wpList_chunk 3 (by kernel_rfl) ?_
   simp only [takS, Nat.reduceAdd]
   repeat (first | go_big_quiet_skip | (go_big_quiet_want; first | (refine quiet_loadAny (t := 3) rfl _ _ _ rfl (fun w hw => run_load_int ((ov_B p8 w hw).cellL 0 rfl)) (by first | rfl | omega) ?_; simp only [putS]; go_big_quiet_on) | (go_big_quiet_op; go_big_quiet_on)))
   refine wpQuiet_nil ?_
   refine wpList_nil ?_
   clear p8 q2
   go_wp2
   refine wp_loop (fun a W => ∃ (kx : Nat) (vo : Value), kx ≤ Wd ∧ OutT b_r2 b_r3 b_p5 b_p6 b_p8 vo a ∧ a.tmps.getD 9 undef = .int .i64 (Y0 + (ky : Int)) ∧ a.tmps.getD 10 undef = .int .i64 (X0 + (kx : Int)) ∧ OutF w wI b_r2 b_r3 b_p5 b_p6 b_dm b_p8 ⟨X0, Y0, X1, Y1⟩ (scanX (setG ls th) ⟨X0, Y0, X1, Y1⟩ (Y0 + (ky : Int)) (scanY (setG ls th) ⟨X0, Y0, X1, Y1⟩ ky) kx) vo a.defers W) (fun a _ => (X1 - intOf (a.tmps.getD 10 undef)).toNat) ?startx ?xround
   case startx => exact ⟨0, _, Nat.zero_le _, ⟨rfl, rfl, rfl, rfl, rfl, rfl, rfl⟩, rfl, by simp, hF⟩
   case xround =>
    clear hF
    rintro ⟨tm, ds⟩ W ⟨kx, vo, hkx, ⟨e0, e2, e3, e5, e6, e7, e8⟩, e9, e10, hF⟩
    obtain ⟨U, hU, hUi⟩ := arr_fn tm 103 e0
    dsimp only at e2 e3 e5 e6 e7 e8 e9 e10 hF
    rw [← hUi] at e2 e3 e5 e6 e7 e8 e9 e10
    have eL : ((List.range 103).map U).toArray = #[U 0, U 1, U 2, U 3, U 4, U 5, U 6, U 7, U 8, U 9, U 10, U 11, U 12, U 13, U 14, U 15, U 16, U 17, U 18, U 19, U 20, U 21, U 22, U 23, U 24, U 25, U 26, U 27, U 28, U 29, U 30, U 31, U 32, U 33, U 34, U 35, U 36, U 37, U 38, U 39, U 40, U 41, U 42, U 43, U 44, U 45, U 46, U 47, U 48, U 49, U 50, U 51, U 52, U 53, U 54, U 55, U 56, U 57, U 58, U 59, U 60, U 61, U 62, U 63, U 64, U 65, U 66, U 67, U 68, U 69, U 70, U 71, U 72, U 73, U 74, U 75, U 76, U 77, U 78, U 79, U 80, U 81, U 82, U 83, U 84, U 85, U 86, U 87, U 88, U 89, U 90, U 91, U 92, U 93, U 94, U 95, U 96, U 97, U 98, U 99, U 100, U 101, U 102] := rfl
    rw [eL] at hU
    rw [e2, e3, e5, e6, e7, e8, e9, e10] at hU
    subst hU
    clear e0 e2 e3 e5 e6 e7 e8 e9 e10 hUi eL
    by_cases hkW : kx < Wd
    ·have q2 : decide (X0 + (kx : Int) < X1) = true := decide_eq_true (by omega)
     have hSL := scan_small HBX.out HSM.out (i := ky) (j := kx) (by show ky ≤ (Y1 - Y0).toNat; omega) (by show kx ≤ (X1 - X0).toNat; omega) (Y0 + (ky : Int))
     have HST := Lib.hid (show scanX (setG ls th) ⟨X0, Y0, X1, Y1⟩ (Y0 + (ky : Int)) (scanY (setG ls th) ⟨X0, Y0, X1, Y1⟩ ky) (kx + 1) = scan1 (setG ls th) ⟨X0, Y0, X1, Y1⟩ (scanX (setG ls th) ⟨X0, Y0, X1, Y1⟩ (Y0 + (ky : Int)) (scanY (setG ls th) ⟨X0, Y0, X1, Y1⟩ ky) kx) (X0 + (kx : Int)) (Y0 + (ky : Int)) from rfl)
     obtain ⟨⟨L, PS⟩, hst⟩ : ∃ z, scanX (setG ls th) ⟨X0, Y0, X1, Y1⟩ (Y0 + (ky : Int)) (scanY (setG ls th) ⟨X0, Y0, X1, Y1⟩ ky) kx = z := ⟨_, rfl⟩
     rw [hst] at hF hSL HST
     obtain ⟨p5, p6, p8, HW, dm, op, mk, B⟩ := hF
     simp only at dm op hSL
     replace p8 : AtB 30 W b_p8 #[.int .i64 X0, .int .i64 Y0, .int .i64 X1, .int .i64 Y1] := p8
     obtain ⟨x, hx⟩ : ∃ x, X0 + (kx : Int) = x := ⟨_, rfl⟩
     obtain ⟨y, hy⟩ : ∃ y, Y0 + (ky : Int) = y := ⟨_, rfl⟩
     rw [hx] at q2 HST ⊢
     rw [hy] at HST ⊢
     have wfe : WfE ⟨x, y, 0⟩ := ⟨wf_mk (x := x) (by omega) (by omega), wf_mk (x := y) (by omega) (by omega), rfl⟩
     have hws := B.size
     have HWs := Lib.hid (show wI.heap.size ≤ W.heap.size from by have := p5.lt; omega)
     have BW := Lib.hid B
     replace B := Below.refl W.heap.size W
     go_upto_region 11 with fail
     refine wp_region_lit ?_
     try simp only [gelS]
     refine wpList_chunk 4 (by kernel_rfl) ?_
     simp only [takS, Nat.reduceAdd]
     repeat (first | go_big_quiet_skip | (go_big_quiet_want; first | (refine quiet_loadAny (t := 3) rfl _ _ _ rfl (fun w hw => run_load_int ((ov_B p8 w hw).cellL 2 rfl)) (by first | rfl | omega) ?_; simp only [putS]; go_big_quiet_on) | (go_big_quiet_op; go_big_quiet_on)))
     refine wpQuiet_nil ?_
     refine wpList_nil ?_
     go_upto_region 13 with fail
     refine wp_region_lit ?_
     try simp only [gelS]
     refine wpList_chunk 2 (by kernel_rfl) ?_
     simp only [takS, Nat.reduceAdd]
     repeat (first | go_big_quiet_skip | (go_big_quiet_want; go_big_quiet_op; go_big_quiet_on))
     refine wpQuiet_nil ?_
     (refine wpList_val rfl (.agg #[.int .i64 x, .int .i64 y, .int .i64 0]) (by kernel_rfl) ?_; simp only [putS])
     (refine wpList_allocBk (t := 90) rfl _ (run_alloc_St _ _ rfl) ?_; intro b_p11 wn hle hge ht hbn hzn; have hsz := B.size; replace B := B.trans (hbn.mono (by omega)); have hln := Nat.lt_of_lt_of_eq (Nat.lt_succ_self _) hzn.symm; clear hzn; (try have hlt := p5.lt); (try replace p5 := p5.below (hbn.mono hle)); (try have hlt := p6.lt); (try replace p6 := p6.below (hbn.mono hle)); (try have hlt := p8.lt); (try replace p8 := p8.below (hbn.mono hle)); (try have hlt := HW.lt); (try replace HW := HW.below (hbn.mono hle)); (try have hlt := dm.lt); (try replace dm := dm.below (hbn.mono hle)); (try have hlt := op.lt); (try replace op := op.below (hbn.mono hle)); (try have hlt := mk.lt); (try replace mk := mk.below (hbn.mono hle)); have p11 := ht; clear ht; simp only [putS])
     (refine wpList_storeB (t := 90) rfl _ _ rfl _ rfl _ rfl p11 (by kernel_rfl) rfl (by simp [edC, Value.oneCell']) ?_; have p11o := p11; have p11o := p11; have p11o := p11; clear p11; intro wn ht hcn hzn; (try replace dm := dm.chg p11o trivial hcn); (try replace mk := mk.chg p11o trivial hcn); (try replace op := op.chg p11o (by decide) hcn); (try replace HW := HW.chg p11o (by omega) hcn); have hsz := B.size; replace hzn := Nat.le_of_eq hzn.symm; replace B := Chg.below B hcn (by omega) B.size; (try replace p5 := p5.of_eq (hcn.block _ p5.lt (by omega))); (try replace p6 := p6.of_eq (hcn.block _ p6.lt (by omega))); (try replace p8 := p8.of_eq (hcn.block _ p8.lt (by omega))); (try replace HW := HW.of_eq (hcn.block _ HW.lt (by omega))); (try replace dm := dm.of_eq (hcn.block _ dm.lt (by omega))); (try replace op := op.of_eq (hcn.block _ op.lt (by omega))); (try replace mk := mk.of_eq (hcn.block _ mk.lt (by omega))); have p11 := ht; clear ht; simp only [putS])
     refine wpList_nil ?_
     replace p11 : AtB 90 _ b_p11 #[.int .i64 x, .int .i64 y, .int .i64 0] := p11
     have hI := HI.out.hold HW
     have bx : -100000 ≤ x ∧ x ≤ 100000 := by omega
     have by_ : -100000 ≤ y ∧ y ≤ 100000 := by omega
     cases hdn : decide ((⟨x, y, 0⟩ : Ed) ∈ L) with
     | true =>
      have hst2 := Lib.hid (show scan1 (setG ls th) ⟨X0, Y0, X1, Y1⟩ (L, PS) x y = (L, PS) from by unfold scan1; rw [if_pos (by simp only [hdn, Bool.true_or])])
      go_upto_region 14 with fail
      refine wp_region_lit ?_
      try simp only [gelS]
      refine wpList_chunk 2 (by kernel_rfl) ?_
      simp only [takS, Nat.reduceAdd]
      repeat (first | go_big_quiet_skip | (go_big_quiet_want; first | (refine quiet_loadAny (t := 87) rfl _ _ _ rfl (fun w hw => run_load_mv ((ov_B p6 w hw).cellL 0 rfl)) (by first | rfl | omega) ?_; simp only [putS]; go_big_quiet_on) | (refine quiet_loadAny (t := 90) rfl _ _ _ rfl (fun w hw => run_load_B (ov_B p11 w hw) Tryz.isAgg90 (by kernel_rfl)) (by rfl) ?_; simp only [putS]; go_big_quiet_on) | (go_big_quiet_op; go_big_quiet_on)))
      refine wpQuiet_nil ?_
      (refine wpList_look rfl _ _ rfl rfl dm ⟨x, y, 0⟩ rfl wfe true hdn ?_; simp only [putS])
      refine wpList_chunk 3 (by kernel_rfl) ?_
      simp only [takS, Nat.reduceAdd]
      repeat (first | go_big_quiet_skip | (go_big_quiet_want; first | (refine quiet_loadAny (t := 90) rfl _ _ _ rfl (fun w hw => run_load_B (ov_B p11 w hw) Tryz.isAgg90 (by kernel_rfl)) (by rfl) ?_; simp only [putS]; go_big_quiet_on) | (go_big_quiet_op; go_big_quiet_on)))
      refine wpQuiet_nil ?_
      refine wpList_skip ?hs15_6 ?_
      case hs15_6 => kernel_rfl
      simp only [putS]
      refine wpList_chunk 2 (by kernel_rfl) ?_
      simp only [takS, Nat.reduceAdd]
      repeat (first | go_big_quiet_skip | (go_big_quiet_want; go_big_quiet_op; go_big_quiet_on))
      refine wpQuiet_nil ?_
      refine wpList_nil ?_
      go_upto_region 12 with fail
      refine wp_region_lit ?_
      try simp only [gelS]
      refine wpList_chunk 3 (by kernel_rfl) ?_
      simp only [takS, Nat.reduceAdd]
      repeat (first | go_big_quiet_skip | (go_big_quiet_want; go_big_quiet_op; go_big_quiet_on))
      refine wpQuiet_nil ?_
      refine wpList_nil ?_
      go_wp2
      refine ⟨⟨kx + 1, vo, by omega, ⟨rfl, rfl, rfl, rfl, rfl, rfl, rfl⟩, rfl, by show Value.int _ _ = _; congr 1; omega, ?_⟩, ?_⟩
      ·rw [HST.out, hst2.out]
       exact ⟨p5, p6, p8, HW, dm, op, mk, BW.out.trans (B.mono hws)⟩
      ·show (X1 - intOf (.int .i64 _)).toNat < (X1 - intOf (.int .i64 _)).toNat
       simp only [intOf]; omega
     | false =>
      cases hhs : hasE (setG ls th) x y 0 with
      | false =>
       have hst2 := Lib.hid (show scan1 (setG ls th) ⟨X0, Y0, X1, Y1⟩ (L, PS) x y = (L, PS) from by unfold scan1; rw [if_pos (by simp only [hhs, Bool.not_false, Bool.or_true])])
       go_upto_region 14 with fail
       refine wp_region_lit ?_
       try simp only [gelS]
       refine wpList_chunk 2 (by kernel_rfl) ?_
       simp only [takS, Nat.reduceAdd]
       repeat (first | go_big_quiet_skip | (go_big_quiet_want; first | (refine quiet_loadAny (t := 87) rfl _ _ _ rfl (fun w hw => run_load_mv ((ov_B p6 w hw).cellL 0 rfl)) (by first | rfl | omega) ?_; simp only [putS]; go_big_quiet_on) | (refine quiet_loadAny (t := 90) rfl _ _ _ rfl (fun w hw => run_load_B (ov_B p11 w hw) Tryz.isAgg90 (by kernel_rfl)) (by rfl) ?_; simp only [putS]; go_big_quiet_on) | (go_big_quiet_op; go_big_quiet_on)))
       refine wpQuiet_nil ?_
       (refine wpList_look rfl _ _ rfl rfl dm ⟨x, y, 0⟩ rfl wfe false hdn ?_; simp only [putS])
       refine wpList_chunk 3 (by kernel_rfl) ?_
       simp only [takS, Nat.reduceAdd]
       repeat (first | go_big_quiet_skip | (go_big_quiet_want; first | (refine quiet_loadAny (t := 90) rfl _ _ _ rfl (fun w hw => run_load_B (ov_B p11 w hw) Tryz.isAgg90 (by kernel_rfl)) (by rfl) ?_; simp only [putS]; go_big_quiet_on) | (refine quiet_loadAny (t := 86) rfl _ _ _ rfl (fun w hw => run_load_B (ov_B p5 w hw) Tryz.isAgg86 (by kernel_rfl)) (by rfl) ?_; simp only [putS]; go_big_quiet_on) | (go_big_quiet_op; go_big_quiet_on)))
       refine wpQuiet_nil ?_
       refine wpList_callF (by first | rfl | simp [Region.wanted, yielded]) rfl (enters_of Tryz.func60 (by kernel_rfl) rfl) (by simp only [Act.eval, evlS]; rfl) ?_
       refine (P_has b_r2 b_r3 ls th x y 0 false _ hI TK.out hn bx by_ ⟨by omega, by omega⟩ hhs).mono ?_
       rintro e wn ⟨rfl, hbn⟩
       have hsz := B.size
       have hzn := hbn.size
       replace B := B.trans (hbn.mono B.size)
       (try replace p5 := p5.below hbn)
       (try replace p6 := p6.below hbn)
       (try replace p8 := p8.below hbn)
       (try replace HW := HW.below hbn)
       (try replace dm := dm.below hbn)
       (try replace op := op.below hbn)
       (try replace mk := mk.below hbn)
       (try replace p11 := p11.below hbn)
       refine ⟨_, rfl, ?_⟩
       simp only [putS]
       refine wpList_chunk 2 (by kernel_rfl) ?_
       simp only [takS, Nat.reduceAdd]
       repeat (first | go_big_quiet_skip | (go_big_quiet_want; go_big_quiet_op; go_big_quiet_on))
       refine wpQuiet_nil ?_
       refine wpList_nil ?_
       go_upto_region 12 with fail
       refine wp_region_lit ?_
       try simp only [gelS]
       refine wpList_chunk 3 (by kernel_rfl) ?_
       simp only [takS, Nat.reduceAdd]
       repeat (first | go_big_quiet_skip | (go_big_quiet_want; go_big_quiet_op; go_big_quiet_on))
       refine wpQuiet_nil ?_
       refine wpList_nil ?_
       go_wp2
       refine ⟨⟨kx + 1, vo, by omega, ⟨rfl, rfl, rfl, rfl, rfl, rfl, rfl⟩, rfl, by show Value.int _ _ = _; congr 1; omega, ?_⟩, ?_⟩
       ·rw [HST.out, hst2.out]
        exact ⟨p5, p6, p8, HW, dm, op, mk, BW.out.trans (B.mono hws)⟩
       ·show (X1 - intOf (.int .i64 _)).toNat < (X1 - intOf (.int .i64 _)).toNat
        simp only [intOf]; omega
      | true =>
       have hst2 := Lib.hid (show scan1 (setG ls th) ⟨X0, Y0, X1, Y1⟩ (L, PS) x y = (L ++ folE (setG ls th) ⟨X0, Y0, X1, Y1⟩ ⟨x, y, 0⟩, PS ++ [cornG (folE (setG ls th) ⟨X0, Y0, X1, Y1⟩ ⟨x, y, 0⟩)]) from by unfold scan1; rw [if_neg (by simp only [hdn, hhs, Bool.not_true, Bool.or_self]; decide)])
       go_upto_region 14 with fail
       refine wp_region_lit ?_
       try simp only [gelS]
       refine wpList_chunk 2 (by kernel_rfl) ?_
       simp only [takS, Nat.reduceAdd]
       repeat (first | go_big_quiet_skip | (go_big_quiet_want; first | (refine quiet_loadAny (t := 87) rfl _ _ _ rfl (fun w hw => run_load_mv ((ov_B p6 w hw).cellL 0 rfl)) (by first | rfl | omega) ?_; simp only [putS]; go_big_quiet_on) | (refine quiet_loadAny (t := 90) rfl _ _ _ rfl (fun w hw => run_load_B (ov_B p11 w hw) Tryz.isAgg90 (by kernel_rfl)) (by rfl) ?_; simp only [putS]; go_big_quiet_on) | (go_big_quiet_op; go_big_quiet_on)))
       refine wpQuiet_nil ?_
       (refine wpList_look rfl _ _ rfl rfl dm ⟨x, y, 0⟩ rfl wfe false hdn ?_; simp only [putS])
       refine wpList_chunk 3 (by kernel_rfl) ?_
       simp only [takS, Nat.reduceAdd]
       repeat (first | go_big_quiet_skip | (go_big_quiet_want; first | (refine quiet_loadAny (t := 90) rfl _ _ _ rfl (fun w hw => run_load_B (ov_B p11 w hw) Tryz.isAgg90 (by kernel_rfl)) (by rfl) ?_; simp only [putS]; go_big_quiet_on) | (refine quiet_loadAny (t := 86) rfl _ _ _ rfl (fun w hw => run_load_B (ov_B p5 w hw) Tryz.isAgg86 (by kernel_rfl)) (by rfl) ?_; simp only [putS]; go_big_quiet_on) | (go_big_quiet_op; go_big_quiet_on)))
       refine wpQuiet_nil ?_
       refine wpList_callF (by first | rfl | simp [Region.wanted, yielded]) rfl (enters_of Tryz.func60 (by kernel_rfl) rfl) (by simp only [Act.eval, evlS]; rfl) ?_
       refine (P_has b_r2 b_r3 ls th x y 0 true _ hI TK.out hn bx by_ ⟨by omega, by omega⟩ hhs).mono ?_
       rintro e wn ⟨rfl, hbn⟩
       have hsz := B.size
       have hzn := hbn.size
       replace B := B.trans (hbn.mono B.size)
       (try replace p5 := p5.below hbn)
       (try replace p6 := p6.below hbn)
       (try replace p8 := p8.below hbn)
       (try replace HW := HW.below hbn)
       (try replace dm := dm.below hbn)
       (try replace op := op.below hbn)
       (try replace mk := mk.below hbn)
       (try replace p11 := p11.below hbn)
       refine ⟨_, rfl, ?_⟩
       simp only [putS]
       refine wpList_chunk 2 (by kernel_rfl) ?_
       simp only [takS, Nat.reduceAdd]
       repeat (first | go_big_quiet_skip | (go_big_quiet_want; go_big_quiet_op; go_big_quiet_on))
       refine wpQuiet_nil ?_
       refine wpList_nil ?_
       clear hI
       have k8 := p8.lt
       go_upto_region 15 with fail
       refine wp_region_lit ?_
       try simp only [gelS]
       (refine wpList_allocBk (t := 92) rfl _ (run_alloc_Ss _ _ rfl) ?_; intro b_l12 wn hle hge ht hbn hzn; have hsz := B.size; replace B := B.trans (hbn.mono (by omega)); have hln := Nat.lt_of_lt_of_eq (Nat.lt_succ_self _) hzn.symm; clear hzn; (try have hlt := p5.lt); (try replace p5 := p5.below (hbn.mono hle)); (try have hlt := p6.lt); (try replace p6 := p6.below (hbn.mono hle)); (try have hlt := p8.lt); (try replace p8 := p8.below (hbn.mono hle)); (try have hlt := HW.lt); (try replace HW := HW.below (hbn.mono hle)); (try have hlt := dm.lt); (try replace dm := dm.below (hbn.mono hle)); (try have hlt := op.lt); (try replace op := op.below (hbn.mono hle)); (try have hlt := mk.lt); (try replace mk := mk.below (hbn.mono hle)); (try have hlt := p11.lt); (try replace p11 := p11.below (hbn.mono hle)); have l12 := ht; clear ht; simp only [putS])
       refine wpList_nil ?_
       have n8 : b_p8 < b_l12 := by omega
       have kl12 := l12.lt
       clear k8
       go_upto_region 16 with fail
       refine wp_region_lit ?_
       try simp only [gelS]
       refine wpList_chunk 2 (by kernel_rfl) ?_
       simp only [takS, Nat.reduceAdd]
       repeat (first | go_big_quiet_skip | (go_big_quiet_want; first | (refine quiet_loadAny (t := 90) rfl _ _ _ rfl (fun w hw => run_load_B (ov_B p11 w hw) Tryz.isAgg90 (by kernel_rfl)) (by rfl) ?_; simp only [putS]; go_big_quiet_on) | (refine quiet_loadAny (t := 86) rfl _ _ _ rfl (fun w hw => run_load_B (ov_B p5 w hw) Tryz.isAgg86 (by kernel_rfl)) (by rfl) ?_; simp only [putS]; go_big_quiet_on) | (go_big_quiet_op; go_big_quiet_on)))
       refine wpQuiet_nil ?_
       refine wpList_callF (by first | rfl | simp [Region.wanted, yielded]) rfl (enters_of Tryz.func61 (by kernel_rfl) rfl) (by simp only [Act.eval, evlS]; rfl) ?_
       refine (P_from b_r2 b_r3 x y 0 _).mono ?_
       rintro e wn ⟨bs, bb, rfl, hbs, hbb, ps, pb, hbn⟩
       have hsz := B.size
       have hzn := hbn.size
       replace B := B.trans (hbn.mono B.size)
       (try replace p5 := p5.below hbn)
       (try replace p6 := p6.below hbn)
       (try replace p8 := p8.below hbn)
       (try replace HW := HW.below hbn)
       (try replace dm := dm.below hbn)
       (try replace op := op.below hbn)
       (try replace mk := mk.below hbn)
       (try replace p11 := p11.below hbn)
       (try replace l12 := l12.below hbn)
       refine ⟨_, rfl, ?_⟩
       simp only [putS]
       refine wpList_nil ?_
       go_wp2
       obtain ⟨A, hA⟩ : ∃ z, z = wn := ⟨_, rfl⟩
       subst hA
       have hsI := Nat.le_trans HWs.out B.size
       have kbs : bs ≠ b_l12 := by omega
       have kbb : bb ≠ b_l12 := by omega
       have kbI : wI.heap.size ≤ b_l12 := by omega
       have k12 := l12.lt
       have k6 := p6.lt
       have kd := dm.lt
       have HBND := Lib.hid (show Bnd (setG ls th) ⟨x, y, 0⟩ from ⟨⟨Int.le_refl _, by show (0 : Int) ≤ 3; omega⟩, hhs⟩)
       refine (wpIn_wide (n := 3)).1 ?_
       refine rangeFunc_own (F := Fence.wide) rfl (by omega) (gf := 98) (lb := #[.pointer (some ⟨bs, 0, none⟩), .pointer (some ⟨bb, 0, none⟩)]) rfl trivial (enters_of Tryz.func98 (by kernel_rfl) rfl) (from_stops b_r2 b_r3 ls th TK.out hn ⟨X0, Y0, X1, Y1⟩ (by simp only; omega) HBX.out ⟨x, y, 0⟩ HBND.out bs bb b_l12 _ (by omega) A wI ps pb HI.out HW hsI kbI kbs kbb) (fun h k => KpO.trans h k) (fun W l o o' hl ho => KpO.putObj o' hl ho) (fun A B h => KpO.below h) (Below.refl _ _) (fun _ => rfl)
        (fun pre W => ∃ (va : Option Addr) (cp : Nat), AtB 92 W b_l12 #[.slice va pre.length cp] ∧ OwnE edE (A.heap.size + 3) (.slice va pre.length cp) pre W ∧ DoneM b_dm (L ++ pre) W ∧ KX A b_dm b_l12 W)
        (fun pre W W' row hI hg hr => ?own) (fun pre W W' row hI hg hr => ?own1) ⟨none, 0, l12, OwnE.nil _ _, by rw [List.append_nil]; exact dm, KX.refl _ _ _⟩
        (fun x a' W => ∃ b13 : Nat, a'.defers = [] ∧ a'.tmps.size = 103 ∧ a'.tmps.getD 6 undef = .pointer (some ⟨b_p6, 0, none⟩) ∧ a'.tmps.getD 12 undef = .pointer (some ⟨b_l12, 0, none⟩) ∧ a'.tmps.getD 13 undef = .pointer (some ⟨b13, 0, none⟩) ∧ AtB 90 W b13 (edC x))
        (fun x a' W W' row hA hg hr => ?own2) ?assign ?body ?done
       case own =>
        obtain ⟨va, cp, h1, h2, h3, h4⟩ := hI
        have hr' : ∀ r, row = some r → ∃ o : Obj, W.heap[r]? = some o ∧ o.isCells = false := fun r e => (hr r e).2
        exact ⟨va, cp, h1.own hg hr', h2.ownR hg hr', h3.kept hg (fun e => by have := (hr _ e.symm).1; omega), h4.grown hg (fun r e => .inl (hr r e).1)⟩
       case own1 =>
        obtain ⟨va, cp, h1, h2, h3, h4⟩ := hI
        exact ⟨va, cp, h1.of_eq (hg.block _ h1.lt (fun e => by have := hr _ e.symm; omega)), h2.keptC hg (fun r e => by have := hr r e; omega), h3.kept hg (fun e => by have := hr _ e.symm; omega), h4.grown hg (fun r e => .inl (by have := hr r e; omega))⟩
       case own2 =>
        obtain ⟨b13, e1, e2, e3, e4, e5, h1⟩ := hA
        exact ⟨b13, e1, e2, e3, e4, e5, h1.own hg (fun r e => (hr r e).2)⟩
       case assign =>
        intro l pre x W K hIp hgt hK
        have B := Below.refl W.heap.size W
        refine zip1_wp ?_
        simp only [List.setIfInBounds_toArray, List.set_cons_succ, List.set_cons_zero]
        refine round_lit (by kernel_rfl) ?_
        try simp only [gelS]
        (refine wpList_allocBk (t := 90) rfl _ (run_alloc_St _ _ rfl) ?_; intro b_p13 wn hle hge ht hbn hzn; have hsz := B.size; replace B := B.trans (hbn.mono (by omega)); have hln := Nat.lt_of_lt_of_eq (Nat.lt_succ_self _) hzn.symm; clear hzn; have p13 := ht; clear ht; simp only [putS])
        (refine wpList_storeB (t := 90) rfl _ _ rfl _ rfl _ rfl p13 (by kernel_rfl) rfl (by simp [edC, Value.oneCell']) ?_; clear p13; intro wn ht hcn hzn; have hsz := B.size; replace hzn := Nat.le_of_eq hzn.symm; replace B := Chg.below B hcn (by omega) B.size; have p13 := ht; clear ht; simp only [putS])
        refine wpList_nil ?_
        refine Only.at ?_
        refine hK _ _ B ⟨_, rfl, rfl, rfl, rfl, rfl, p13⟩
       case body =>
        rintro l pre ⟨ex, ey, ed⟩ W ⟨tm, df⟩ ⟨va, cp, l12, od, dm, kx⟩ ⟨b13, e1, e2, e6, e12, e13, p13⟩ ⟨k, hk, hpre, hxe⟩ hgt
        obtain ⟨V, hV, hVi⟩ := arr_fn tm 103 e2
        dsimp only at e6 e12 e13
        rw [← hVi] at e6 e12 e13
        have eL : ((List.range 103).map V).toArray = #[V 0, V 1, V 2, V 3, V 4, V 5, V 6, V 7, V 8, V 9, V 10, V 11, V 12, V 13, V 14, V 15, V 16, V 17, V 18, V 19, V 20, V 21, V 22, V 23, V 24, V 25, V 26, V 27, V 28, V 29, V 30, V 31, V 32, V 33, V 34, V 35, V 36, V 37, V 38, V 39, V 40, V 41, V 42, V 43, V 44, V 45, V 46, V 47, V 48, V 49, V 50, V 51, V 52, V 53, V 54, V 55, V 56, V 57, V 58, V 59, V 60, V 61, V 62, V 63, V 64, V 65, V 66, V 67, V 68, V 69, V 70, V 71, V 72, V 73, V 74, V 75, V 76, V 77, V 78, V 79, V 80, V 81, V 82, V 83, V 84, V 85, V 86, V 87, V 88, V 89, V 90, V 91, V 92, V 93, V 94, V 95, V 96, V 97, V 98, V 99, V 100, V 101, V 102] := rfl
        rw [eL] at hV
        rw [e6, e12, e13] at hV
        subst hV
        have e1 : df = [] := e1
        subst e1
        clear e2 e6 e12 e13 hVi eL
        have hper := (perE_spec HBX.out HBND.out).2.2.1
        have hbn1 := (box_small (r := ⟨X0, Y0, X1, Y1⟩) HSM.out).1
        have hpl : pre.length = k := by rw [hpre, orbK_len]
        have hbe := HBX.out _ (orb_bnd HBND.out k)
        rw [← hxe] at hbe
        have hde := (orb_bnd HBND.out k).1
        rw [← hxe] at hde
        simp only at hbe hde
        have wfx : WfE ⟨ex, ey, ed⟩ := ⟨wf_mk (x := ex) (by omega) (by omega), wf_mk (x := ey) (by omega) (by omega), wf_mk (x := ed) (by omega) (by omega)⟩
        have l6 := kx.atB p6 (by omega) (by omega)
        have hne6 := dm.ne l6
        have hne12 := dm.ne l12
        have hne13 := dm.ne p13
        have hmo := Lib.hid dm
        have hkx := Lib.hid kx
        have l12W := Lib.hid l12
        have hLl : (L ++ pre).length < maxLen := by rw [List.length_append]; unfold maxLen; omega
        have hl1 : pre.length + 1 ≤ 100000000 := by omega
        clear hbe hde hpre hxe hk kx
        replace p13 : AtB 90 W b13 #[.int .i64 ex, .int .i64 ey, .int .i64 ed] := p13
        have B : Exc b_dm (A.heap.size + 3) W W := ⟨rfl, rfl, rfl, hgt, Nat.le_refl _, fun _ _ _ => rfl⟩
        gi_upto_region 18 with fail
        refine round_lit (by kernel_rfl) ?_
        try simp only [gelS]
        refine wpList_chunk 2 (by kernel_rfl) ?_
        simp only [takS, Nat.reduceAdd]
        repeat (first | go_big_quiet_skip | (go_big_quiet_want; first | (refine quiet_loadAny (t := 87) rfl _ _ _ rfl (fun w hw => run_load_mv ((ov_B l6 w hw).cellL 0 rfl)) (by first | rfl | omega) ?_; simp only [putS]; go_big_quiet_on) | (refine quiet_loadAny (t := 90) rfl _ _ _ rfl (fun w hw => run_load_B (ov_B p13 w hw) Tryz.isAgg90 (by kernel_rfl)) (by rfl) ?_; simp only [putS]; go_big_quiet_on) | (go_big_quiet_op; go_big_quiet_on)))
        refine wpQuiet_nil ?_
        (refine wpList_done rfl _ _ rfl rfl dm ⟨ex, ey, ed⟩ rfl wfx hLl ?_; clear dm; intro wn dm hgr; have hcn := chg_of_grown hgr; replace B := Exc.chg B hcn; replace l12 := l12.of_eq (hcn.block _ l12.lt hne12); replace l6 := l6.of_eq (hcn.block _ l6.lt hne6); replace p13 := p13.of_eq (hcn.block _ p13.lt hne13); replace od := od.keptC hgr (fun r e => by cases e; omega); simp only [putS])
        refine wpList_nil ?_
        refine Only.at ?_
        try dsimp only
        gi_upto_region 19 with fail
        refine round_lit (by kernel_rfl) ?_
        have ks := B.size
        try simp only [gelS]
        refine wpList_chunk 2 (by kernel_rfl) ?_
        simp only [takS, Nat.reduceAdd]
        repeat (first | go_big_quiet_skip | (go_big_quiet_want; first | (refine quiet_loadAny (t := 92) rfl _ _ _ rfl (fun w hw => run_load_ss ((ov_B l12 w hw).cellL 0 rfl)) (by first | rfl | omega) ?_; simp only [putS]; go_big_quiet_on) | (refine quiet_loadAny (t := 90) rfl _ _ _ rfl (fun w hw => run_load_B (ov_B p13 w hw) Tryz.isAgg90 (by kernel_rfl)) (by rfl) ?_; simp only [putS]; go_big_quiet_on) | (go_big_quiet_op; go_big_quiet_on)))
        refine wpQuiet_nil ?_
        (refine wpList_bs1E (E := edE) rfl _ rfl (⟨ex, ey, ed⟩) rfl (by omega) ?_; intro b_s1 wn hle hge ht hbn hzn; replace od := od.below (hbn.mono hle); have hsz := B.size; replace B := B.trans (hbn.mono (by omega)); have hln := Nat.lt_of_lt_of_eq (Nat.lt_succ_self _) hzn.symm; clear hzn; (try have hlt := l12.lt); (try replace l12 := l12.below (hbn.mono hle)); (try have hlt := p13.lt); (try have hlt := od.lt); (try replace od := od.below (hbn.mono hle)); (try have hlt := dm.lt); (try replace dm := dm.below (hbn.mono hle)); have s1 := ht; clear ht; simp only [putS])
        (at_builtin; refine wpList_appendE rfl _ _ rfl _ _ rfl rfl od (RSE.one s1) (by simp only [List.length_cons, List.length_nil]; omega) (by omega) ?_; intro v_od wn ht hbn; have hsz := B.size; have hbz := hbn.size; replace B := B.trans (hbn.mono (by omega)); clear od; (try replace l12 := l12.of_eq (hbn.block _ (by omega))); (try replace dm := dm.of_eq (hbn.block _ (by omega))); have od := ht; clear ht; obtain ⟨a_od, c_od, hv, hco⟩ := od.len; (try simp only [List.length_append, List.length_cons, List.length_nil, Nat.zero_add] at hv hco); subst hv; simp only [putS])
        obtain ⟨W5, hW5⟩ : ∃ z, z = wn := ⟨_, rfl⟩
        subst hW5
        refine wpList_storeSs rfl _ _ rfl _ rfl _ _ _ rfl l12 ?_
        intro W6 l12' hc6 _
        simp only [putS]
        refine wpList_nil ?_
        refine Only.at ?_
        try dsimp only
        gi_wp2
        have hgr := B.grow
        have dm6 := dm.chg l12 trivial hc6
        have od6 := od.chg hc6 (by omega)
        refine ⟨fun k o h1 h2 ho => ?_, ⟨Nat.le_trans B.grow hc6.size, fun k o hk ho hcl => ?_⟩, ⟨a_od, c_od, by rw [List.length_append]; exact l12', by rw [List.length_append]; exact od6, by rw [← List.append_assoc]; exact dm6, (hkx.out.exc B (by omega)).chgL hc6⟩⟩
        ·have hlt := (Array.getElem?_eq_some_iff.1 ho).1
         exact (hc6.block k (by omega) (by omega)).trans ((B.block k (by omega) (by omega)).trans ho)
        ·have hlt := (Array.getElem?_eq_some_iff.1 ho).1
         have hkm : k ≠ b_dm := fun e => by
          obtain ⟨es, c, h5⟩ := hmo.out.obj
          rw [e, h5] at ho
          cases ho
          cases hcl
         exact (hc6.block k (by omega) (by omega)).trans ((B.block k (by omega) hkm).trans ho)
       case done =>
        rintro D xs W2 hD rfl ⟨va, cp, l12b, od, dm2, kx⟩ hDD
        have kd2 : DefAt W2 D := hDD
        obtain ⟨ll, hll⟩ : ∃ z, folE (setG ls th) ⟨X0, Y0, X1, Y1⟩ ⟨x, y, 0⟩ = z := ⟨_, rfl⟩
        rw [hll] at l12b od dm2 hst2
        have hcnt := (box_small (r := ⟨X0, Y0, X1, Y1⟩) HSM.out).1
        have hper := (perE_spec HBX.out HBND.out).2.2.1
        have hlen : ll.length ≤ 161604 := by rw [← hll]; unfold folE; rw [orbK_len]; omega
        have hF2 := Lib.hid (show OutF w wI b_r2 b_r3 b_p5 b_p6 b_dm b_p8 ⟨X0, Y0, X1, Y1⟩ (L ++ ll, PS) vo ({ target := .collected D, args := #[] } :: ds) W2 from
         ⟨kx.atB p5 (by omega) (by omega), kx.atB p6 (by omega) (by omega), kx.atB p8 (by omega) (by omega), kx.hold HW (by omega) (by omega), dm2, kx.polys op dm.obj l12 (by decide), ⟨⟨D, rfl, by omega, kd2, fun D' hm => by have := mk.lt D' hm; omega⟩, kx.marks mk (fun D hD => dm.neD hD) (fun D hD => fun e => hD.ne l12 e.symm)⟩, kx.below (BW.out.trans (B.mono hws)) (by omega) (by omega) (by omega)⟩)
        have hpos : 0 < ll.length := by rw [← hll]; unfold folE; rw [orbK_len]; have := (perE_spec HBX.out HBND.out).2.1; omega
        obtain ⟨g12, o12, rfl, ce⟩ := od.rs.at hpos
        dsimp only
        clear B BW p5 p6 p8 p11 HW dm op mk ps pb l12 kd2 dm2 kx od HBND hper hll
        have B := Below.refl W2.heap.size W2
        go_upto_region 20 with fail
        refine wp_region_lit ?_
        try simp only [gelS]
        refine wpList_chunk 1 (by kernel_rfl) ?_
        simp only [takS, Nat.reduceAdd]
        repeat (first | go_big_quiet_skip | (go_big_quiet_want; go_big_quiet_op; go_big_quiet_on))
        refine wpQuiet_nil ?_
        refine wpList_nil ?_
        go_upto_region 21 with fail
        refine wp_region_lit ?_
        try simp only [gelS]
        refine wpList_chunk 1 (by kernel_rfl) ?_
        simp only [takS, Nat.reduceAdd]
        repeat (first | go_big_quiet_skip | (go_big_quiet_want; first | (refine quiet_loadAny (t := 92) rfl _ _ _ rfl (fun w hw => run_load_ss ((ov_B l12b w hw).cellL 0 rfl)) (by first | rfl | omega) ?_; simp only [putS]; go_big_quiet_on) | (go_big_quiet_op; go_big_quiet_on)))
        refine wpQuiet_nil ?_
        refine wpList_lenS (by first | rfl | simp [Region.wanted, yielded]) rfl Tryz.underlying92 rfl ?_
        simp only [putS]
        refine wpList_chunk 1 (by kernel_rfl) ?_
        simp only [takS, Nat.reduceAdd]
        repeat (first | go_big_quiet_skip | (go_big_quiet_want; go_big_quiet_op; go_big_quiet_on))
        refine wpQuiet_nil ?_
        refine wpList_nil ?_
        go_wp2
        have HLB := Lib.hid l12b
        have HCE := Lib.hid ce
        have o14 := OwnE.nil (E := ptE) W2.heap.size W2
        go_loopw [14, 15, 16, 69] (fun v14 _ _ iv wr => ∃ k, k ≤ ll.length ∧ iv = .int .i64 (k : Int) ∧ Below W2.heap.size W2 wr ∧ ∃ a c, v14 = .slice a (cornK ll k).length c ∧ OwnE ptE W2.heap.size (.slice a (cornK ll k).length c) (cornK ll k) wr) (fun _ _ _ iv _ => (ll.length - intOf iv).toNat)
        case atStart => exact ⟨0, by omega, rfl, B, none, 0, rfl, o14⟩
        case round =>
         clear B l12b ce o14
         obtain ⟨k, hk, rfl, B, a14, c14, rfl, o14⟩ := hrel
         have l12b := HLB.out.of_eq (B.block _ HLB.out.lt)
         have ce := HCE.out.of_eq (B.block _ HCE.out.lt)
         have hcl := cornK_len ll k
         by_cases hkl : k < ll.length
         ·have q3 : decide ((k : Int) < (ll.length : Int)) = true := decide_eq_true (by omega)
          have q4 : decide (k < ll.length) = true := decide_eq_true hkl
          obtain ⟨pk, hpk⟩ : ∃ p, (k + ll.length - 1) % ll.length = p := ⟨_, rfl⟩
          have hpl : pk < ll.length := by rw [← hpk]; exact Nat.mod_lt _ hpos
          have q5 : decide (pk < ll.length) = true := decide_eq_true hpl
          have q6 : decide ((pk : Int) < (ll.length : Int)) = true := decide_eq_true (by omega)
          have ht1 : Int.tmod ((k : Int) + (ll.length : Int) - 1) (ll.length : Int) = (pk : Int) := by
           rw [Int.tmod_eq_emod_of_nonneg (by omega), show (k : Int) + (ll.length : Int) - 1 = ((k + ll.length - 1 : Nat) : Int) by omega, ← Int.natCast_emod, hpk]
          obtain ⟨⟨ex, ey, ed⟩, he⟩ : ∃ e, edG ll k = e := ⟨_, rfl⟩
          obtain ⟨⟨px, py, pd⟩, hp⟩ : ∃ e, edG ll pk = e := ⟨_, rfl⟩
          have hek : ll[k]? = some ⟨ex, ey, ed⟩ := by
           rw [← he]; unfold edG; rw [List.getD_eq_getElem?_getD, List.getElem?_eq_getElem hkl]; rfl
          have hep : ll[pk]? = some ⟨px, py, pd⟩ := by
           rw [← hp]; unfold edG; rw [List.getD_eq_getElem?_getD, List.getElem?_eq_getElem hpl]; rfl
          have HC := Lib.hid (show cornB ll k = decide (pd ≠ ed) ∧ cornK ll (k + 1) = cornK ll k ++ (if cornB ll k = true then [(ex, ey)] else []) from ⟨by unfold cornB; rw [hpk, hp, he], by show _ ++ (if _ then [((edG ll k).x, (edG ll k).y)] else []) = _; rw [he]⟩)
          clear he hp hpk
          have hl0 : ¬ ((ll.length : Int) = 0) := by omega
          have hl0' : ((ll.length : Int) == 0) = false := beq_eq_false_iff_ne.2 hl0
          go_upto_region 22 with fail
          refine wp_region_lit ?_
          try simp only [gelS]
          refine wpList_chunk 1 (by kernel_rfl) ?_
          simp only [takS, Nat.reduceAdd]
          repeat (first | go_big_quiet_skip | (go_big_quiet_want; go_big_quiet_op; go_big_quiet_on))
          refine wpQuiet_nil ?_
          refine wpList_nil ?_
          go_upto_region 23 with fail
          refine wp_region_lit ?_
          try simp only [gelS]
          refine wpList_chunk 3 (by kernel_rfl) ?_
          simp only [takS, Nat.reduceAdd]
          repeat (first | go_big_quiet_skip | (go_big_quiet_want; first | (refine quiet_loadAny (t := 90) rfl _ _ _ rfl (fun w hw => rce_edS (ov_rce ce w hw) hek) (by first | rfl | omega) ?_; simp only [putS]; go_big_quiet_on) | (go_big_quiet_op; go_big_quiet_on)))
          refine wpQuiet_nil ?_
          (refine wpList_allocBk (t := 90) rfl _ (run_alloc_St _ _ rfl) ?_; intro b_p16 wn hle hge ht hbn hzn; have hsz := B.size; replace B := B.trans (hbn.mono (by omega)); have hln := Nat.lt_of_lt_of_eq (Nat.lt_succ_self _) hzn.symm; clear hzn; (try have hlt := l12b.lt); (try replace l12b := l12b.below (hbn.mono hle)); (try have hlt := ce.lt); (try replace ce := ce.below (hbn.mono hle)); (try have hlt := o14.lt); (try replace o14 := o14.below (hbn.mono hle)); have p16 := ht; clear ht; simp only [putS])
          refine wpList_chunk 1 (by kernel_rfl) ?_
          simp only [takS, Nat.reduceAdd]
          repeat (first | go_big_quiet_skip | (go_big_quiet_want; go_big_quiet_op; go_big_quiet_on))
          refine wpQuiet_nil ?_
          (refine wpList_storeB (t := 90) rfl _ _ rfl _ rfl _ rfl p16 (by kernel_rfl) rfl (by simp [edC, Value.oneCell']) ?_; have p16o := p16; clear p16; intro wn ht hcn hzn; (try replace o14 := o14.chgT p16o (by decide) hcn); have hsz := B.size; replace hzn := Nat.le_of_eq hzn.symm; replace B := Chg.below B hcn (by omega) B.size; (try replace l12b := l12b.of_eq (hcn.block _ l12b.lt (by omega))); (try replace ce := ce.of_eq (hcn.block _ ce.lt (by omega))); (try replace o14 := o14.of_eq (hcn.block _ o14.lt (by omega))); have p16 := ht; clear ht; simp only [putS])
          refine wpList_nil ?_
          replace p16 : AtB 90 _ b_p16 #[.int .i64 ex, .int .i64 ey, .int .i64 ed] := p16
          have k16 := p16.lt
          go_upto_region 24 with fail
          have hcw : Below W2.heap.size W2 _ := B
          by_cases hne : pd = ed
          ·have q7 : (pd != ed) = false := by rw [hne]; simp
           have q8 : (pd == ed) = true := by rw [hne]; simp
           have HC2 := Lib.hid (show cornK ll (k + 1) = cornK ll k from by rw [HC.out.2, HC.out.1, decide_eq_false (fun h => h hne)]; simp)
           try simp only [gelS]
           try have lx_l12b := l12b.lt
           try have lx_ce := ce.lt
           try have lx_o14 := o14.lt
           try have lx_p16 := p16.lt
           refine wp_region_RL 15 [(3, detS ?v1_3), (7, detS ?v1_7)] (by kernel_rfl) (by kernel_rfl) (by kernel_rfl) ?_
           rotate_left 2
           simp only [takS, Nat.reduceAdd]
           refine wpRL_chunk 3 (by kernel_rfl) ?_
           simp only [takS, Nat.reduceAdd]
           repeat (first | go_big_quiet_skip | (go_big_quiet_want; first | (refine quiet_loadAny (t := 92) rfl _ _ _ rfl (fun w hw => run_load_ss ((ov_B l12b w hw).cellL 0 rfl)) (by first | rfl | omega) ?_; simp only [putS]; go_big_quiet_on) | (go_big_quiet_op; go_big_quiet_on)))
           refine wpQuiet_nil ?_
           refine wpRL_callB (by rfl) (by first | rfl | simp [Region.wanted, yielded]) ?_ ?_
           ·intro wn hbn hE Kx hKx
            have hsz := B.size
            have hzn := hbn.size
            replace B := B.trans (hbn.mono B.size)
            (try replace l12b := l12b.below hbn)
            (try replace ce := ce.below hbn)
            (try replace o14 := o14.below hbn)
            (try replace p16 := p16.below hbn)
            refine wp_lenS rfl Tryz.underlying92 rfl ?_
            exact hKx () _ trivial (Below.refl _ _)
           rintro ⟨⟩
           dsimp only [detS]
           simp only [putS]
           refine wpRL_chunk 3 (by kernel_rfl) ?_
           simp only [takS, Nat.reduceAdd]
           repeat (first | go_big_quiet_skip | (go_big_quiet_want; first | (refine quiet_loadAny (t := 92) rfl _ _ _ rfl (fun w hw => run_load_ss ((ov_B l12b w hw).cellL 0 rfl)) (by first | rfl | omega) ?_; simp only [putS]; go_big_quiet_on) | (go_big_quiet_op; go_big_quiet_on)))
           refine wpQuiet_nil ?_
           refine wpRL_callB (by rfl) (by first | rfl | simp [Region.wanted, yielded]) ?_ ?_
           ·intro wn hbn hE Kx hKx
            have hsz := B.size
            have hzn := hbn.size
            replace B := B.trans (hbn.mono B.size)
            (try replace l12b := l12b.below hbn)
            (try replace ce := ce.below hbn)
            (try replace o14 := o14.below hbn)
            (try replace p16 := p16.below hbn)
            refine wp_lenS rfl Tryz.underlying92 rfl ?_
            exact hKx () _ trivial (Below.refl _ _)
           rintro ⟨⟩
           dsimp only [detS]
           simp only [putS]
           refine wpRL_chunk 7 (by kernel_rfl) ?_
           simp only [takS, Nat.reduceAdd]
           repeat (first | go_big_quiet_skip | (go_big_quiet_want; first | (refine quiet_loadAny (t := 3) rfl _ _ _ rfl (fun w hw => rce_eddS (ov_rce ce w hw) hep) (by first | rfl | omega) ?_; simp only [putS]; go_big_quiet_on) | (refine quiet_loadAny (t := 3) rfl _ _ _ rfl (fun w hw => run_load_int ((ov_B p16 w hw).cellL 2 rfl)) (by first | rfl | omega) ?_; simp only [putS]; go_big_quiet_on) | (go_big_quiet_op; go_big_quiet_on)))
           refine wpQuiet_nil ?_
           refine wpRL_nil ?_
           intro wn hbn hE
           have hsz := B.size
           have hzn := hbn.size
           replace B := B.trans (hbn.mono B.size)
           (try replace l12b := l12b.below hbn)
           (try replace ce := ce.below hbn)
           (try replace o14 := o14.below hbn)
           (try replace p16 := p16.below hbn)
           clear hE
           try simp only [List.drop_succ_cons, List.drop_zero]
           refine NoPan.normal ?_
           go_upto_region 26 with fail
           refine wp_region_lit ?_
           try simp only [gelS]
           refine wpList_chunk 2 (by kernel_rfl) ?_
           simp only [takS, Nat.reduceAdd]
           repeat (first | go_big_quiet_skip | (go_big_quiet_want; go_big_quiet_op; go_big_quiet_on))
           refine wpQuiet_nil ?_
           refine wpList_nil ?_
           go_wp2
           go_roundw
           case rel => exact ⟨k + 1, by omega, by go_num, B, a14, c14, by rw [HC2.out], by rw [HC2.out]; exact o14⟩
           case measure => simp [intOf]; omega
          ·have q7 : (pd != ed) = true := by simp [hne]
           have q8 : (pd == ed) = false := by simp [hne]
           have HC2 := Lib.hid (show cornK ll (k + 1) = cornK ll k ++ [(ex, ey)] from by rw [HC.out.2, HC.out.1, decide_eq_true hne]; simp)
           try simp only [gelS]
           try have lx_l12b := l12b.lt
           try have lx_ce := ce.lt
           try have lx_o14 := o14.lt
           try have lx_p16 := p16.lt
           refine wp_region_RL 15 [(3, detS ?v2_3), (7, detS ?v2_7)] (by kernel_rfl) (by kernel_rfl) (by kernel_rfl) ?_
           rotate_left 2
           simp only [takS, Nat.reduceAdd]
           refine wpRL_chunk 3 (by kernel_rfl) ?_
           simp only [takS, Nat.reduceAdd]
           repeat (first | go_big_quiet_skip | (go_big_quiet_want; first | (refine quiet_loadAny (t := 92) rfl _ _ _ rfl (fun w hw => run_load_ss ((ov_B l12b w hw).cellL 0 rfl)) (by first | rfl | omega) ?_; simp only [putS]; go_big_quiet_on) | (go_big_quiet_op; go_big_quiet_on)))
           refine wpQuiet_nil ?_
           refine wpRL_callB (by rfl) (by first | rfl | simp [Region.wanted, yielded]) ?_ ?_
           ·intro wn hbn hE Kx hKx
            have hsz := B.size
            have hzn := hbn.size
            replace B := B.trans (hbn.mono B.size)
            (try replace l12b := l12b.below hbn)
            (try replace ce := ce.below hbn)
            (try replace o14 := o14.below hbn)
            (try replace p16 := p16.below hbn)
            refine wp_lenS rfl Tryz.underlying92 rfl ?_
            exact hKx () _ trivial (Below.refl _ _)
           rintro ⟨⟩
           dsimp only [detS]
           simp only [putS]
           refine wpRL_chunk 3 (by kernel_rfl) ?_
           simp only [takS, Nat.reduceAdd]
           repeat (first | go_big_quiet_skip | (go_big_quiet_want; first | (refine quiet_loadAny (t := 92) rfl _ _ _ rfl (fun w hw => run_load_ss ((ov_B l12b w hw).cellL 0 rfl)) (by first | rfl | omega) ?_; simp only [putS]; go_big_quiet_on) | (go_big_quiet_op; go_big_quiet_on)))
           refine wpQuiet_nil ?_
           refine wpRL_callB (by rfl) (by first | rfl | simp [Region.wanted, yielded]) ?_ ?_
           ·intro wn hbn hE Kx hKx
            have hsz := B.size
            have hzn := hbn.size
            replace B := B.trans (hbn.mono B.size)
            (try replace ce := ce.below hbn)
            (try replace o14 := o14.below hbn)
            (try replace p16 := p16.below hbn)
            refine wp_lenS rfl Tryz.underlying92 rfl ?_
            exact hKx () _ trivial (Below.refl _ _)
           rintro ⟨⟩
           dsimp only [detS]
           simp only [putS]
           refine wpRL_chunk 7 (by kernel_rfl) ?_
           simp only [takS, Nat.reduceAdd]
           repeat (first | go_big_quiet_skip | (go_big_quiet_want; first | (refine quiet_loadAny (t := 3) rfl _ _ _ rfl (fun w hw => rce_eddS (ov_rce ce w hw) hep) (by first | rfl | omega) ?_; simp only [putS]; go_big_quiet_on) | (refine quiet_loadAny (t := 3) rfl _ _ _ rfl (fun w hw => run_load_int ((ov_B p16 w hw).cellL 2 rfl)) (by first | rfl | omega) ?_; simp only [putS]; go_big_quiet_on) | (go_big_quiet_op; go_big_quiet_on)))
           refine wpQuiet_nil ?_
           refine wpRL_nil ?_
           intro wn hbn hE
           have hsz := B.size
           have hzn := hbn.size
           replace B := B.trans (hbn.mono B.size)
           (try replace o14 := o14.below hbn)
           (try replace p16 := p16.below hbn)
           clear hE
           try simp only [List.drop_succ_cons, List.drop_zero]
           refine NoPan.normal ?_
           go_upto_region 25 with fail
           have ksz := B.size
           refine wp_region_lit ?_
           try simp only [gelS]
           refine wpList_chunk 6 (by kernel_rfl) ?_
           simp only [takS, Nat.reduceAdd]
           repeat (first | go_big_quiet_skip | (go_big_quiet_want; first | (refine quiet_loadAny (t := 3) rfl _ _ _ rfl (fun w hw => run_load_int ((ov_B p16 w hw).cellL 0 rfl)) (by first | rfl | omega) ?_; simp only [putS]; go_big_quiet_on) | (refine quiet_loadAny (t := 3) rfl _ _ _ rfl (fun w hw => run_load_int ((ov_B p16 w hw).cellL 1 rfl)) (by first | rfl | omega) ?_; simp only [putS]; go_big_quiet_on) | (go_big_quiet_op; go_big_quiet_on)))
           refine wpQuiet_nil ?_
           (refine wpList_bs1E (E := ptE) rfl _ rfl ((ex, ey)) rfl (by omega) ?_; intro b_s1 wn hle hge ht hbn hzn; replace o14 := o14.below (hbn.mono hle); have hsz := B.size; replace B := B.trans (hbn.mono (by omega)); have hln := Nat.lt_of_lt_of_eq (Nat.lt_succ_self _) hzn.symm; clear hzn; (try have hlt := l12b.lt); (try have hlt := ce.lt); (try have hlt := p16.lt); have s1 := ht; clear ht; simp only [putS])
           (at_builtin; refine wpList_appendE rfl _ _ rfl _ _ rfl rfl o14 (RSE.one s1) (by simp only [List.length_cons, List.length_nil]; omega) (by omega) ?_; intro v_o14 wn ht hbn; have hsz := B.size; have hbz := hbn.size; replace B := B.trans (hbn.mono (by omega)); clear o14; have o14 := ht; clear ht; obtain ⟨a_o14, c_o14, hv, hco⟩ := o14.len; (try simp only [List.length_append, List.length_cons, List.length_nil, Nat.zero_add] at hv hco); subst hv; simp only [putS])
           refine wpList_chunk 1 (by kernel_rfl) ?_
           simp only [takS, Nat.reduceAdd]
           repeat (first | go_big_quiet_skip | (go_big_quiet_want; go_big_quiet_op; go_big_quiet_on))
           refine wpQuiet_nil ?_
           refine wpList_nil ?_
           go_upto_region 26 with fail
           refine wp_region_lit ?_
           try simp only [gelS]
           refine wpList_chunk 2 (by kernel_rfl) ?_
           simp only [takS, Nat.reduceAdd]
           repeat (first | go_big_quiet_skip | (go_big_quiet_want; go_big_quiet_op; go_big_quiet_on))
           refine wpQuiet_nil ?_
           refine wpList_nil ?_
           go_wp2
           go_roundw
           case rel => exact ⟨k + 1, by omega, by go_num, B, a_o14, c_o14, by rw [HC2.out, List.length_append]; rfl, by rw [HC2.out, List.length_append]; exact o14⟩
           case measure => simp [intOf]; omega
         ·obtain rfl : k = ll.length := by omega
          have q3 : decide (((ll.length : Nat) : Int) < (ll.length : Int)) = false := decide_eq_false (by omega)
          have q4 : decide (ll.length < ll.length) = false := decide_eq_false (by omega)
          go_upto_region 22 with fail
          refine wp_region_lit ?_
          try simp only [gelS]
          refine wpList_chunk 1 (by kernel_rfl) ?_
          simp only [takS, Nat.reduceAdd]
          repeat (first | go_big_quiet_skip | (go_big_quiet_want; go_big_quiet_op; go_big_quiet_on))
          refine wpQuiet_nil ?_
          refine wpList_nil ?_
          go_upto_region 27 with fail
          have hF3 := hF2.out.below B
          have op3 : OwnP b_p8 vo PS _ := hF3.2.2.2.2.2.1
          have hcl := cornK_len ll ll.length
          have hb8 := hF2.out.2.2.1.lt
          have hsB := B.size
          have o14' := o14.mono (Nat.le_of_lt hb8)
          refine wp_region_lit ?_
          try simp only [gelS]
          refine wpList_chunk 2 (by kernel_rfl) ?_
          simp only [takS, Nat.reduceAdd]
          repeat (first | go_big_quiet_skip | (go_big_quiet_want; go_big_quiet_op; go_big_quiet_on))
          refine wpQuiet_nil ?_
          (refine wpList_bs1S rfl _ rfl ⟨a14, (cornK ll ll.length).length, c14⟩ rfl ?_; intro b_s39 wn hle hge ht hbn hzn; have hsz := B.size; replace B := B.trans (hbn.mono (by omega)); have hln := Nat.lt_of_lt_of_eq (Nat.lt_succ_self _) hzn.symm; clear hzn; (try first | (have hlt := o14'.lt; replace o14' := o14'.of_eq (hbn.block _ (by omega))) | replace o14' := o14'.below (hbn.mono hle)); (try have hlt := hF3.lt); (try replace hF3 := hF3.below (hbn.mono hle)); (try have hlt := op3.lt); (try replace op3 := op3.below (hbn.mono hle)); have s39 := ht; clear ht; simp only [putS])
          (at_builtin; refine wpList_appendP rfl _ _ rfl _ rfl ⟨a14, (cornK ll ll.length).length, c14⟩ (cornK ll ll.length) rfl op3 s39 o14' (by omega) (by have := hbn.size; omega) ?_; intro v7 wn hop hgr; simp only [putS])
          refine wpList_chunk 1 (by kernel_rfl) ?_
          simp only [takS, Nat.reduceAdd]
          repeat (first | go_big_quiet_skip | (go_big_quiet_want; go_big_quiet_op; go_big_quiet_on))
          refine wpQuiet_nil ?_
          refine wpList_nil ?_
          go_upto_region 12 with fail
          refine wp_region_lit ?_
          try simp only [gelS]
          refine wpList_chunk 3 (by kernel_rfl) ?_
          simp only [takS, Nat.reduceAdd]
          repeat (first | go_big_quiet_skip | (go_big_quiet_want; go_big_quiet_op; go_big_quiet_on))
          refine wpQuiet_nil ?_
          refine wpList_nil ?_
          go_wp2
          refine ⟨⟨kx + 1, v7, by omega, ⟨rfl, rfl, rfl, rfl, rfl, rfl, rfl⟩, rfl, by show Value.int _ _ = _; congr 1; omega, ?_⟩, ?_⟩
          ·rw [HST.out, hst2.out]
           exact OutF.turn hF3 hgr (by omega) hop
          ·show (X1 - intOf (.int .i64 _)).toNat < (X1 - intOf (.int .i64 _)).toNat
           simp only [intOf]; omega
    ·obtain rfl : kx = Wd := by omega
     have q2 : decide (X0 + (kx : Int) < X1) = false := decide_eq_false (by omega)
     have p8 : AtB 30 W b_p8 #[.int .i64 X0, .int .i64 Y0, .int .i64 X1, .int .i64 Y1] := hF.2.2.1
     go_upto_region 11 with fail
     refine wp_region_lit ?_
     try simp only [gelS]
     refine wpList_chunk 4 (by kernel_rfl) ?_
     simp only [takS, Nat.reduceAdd]
     repeat (first | go_big_quiet_skip | (go_big_quiet_want; first | (refine quiet_loadAny (t := 3) rfl _ _ _ rfl (fun w hw => run_load_int ((ov_B p8 w hw).cellL 2 rfl)) (by first | rfl | omega) ?_; simp only [putS]; go_big_quiet_on) | (go_big_quiet_op; go_big_quiet_on)))
     refine wpQuiet_nil ?_
     refine wpList_nil ?_
     go_upto_region 9 with fail
     refine wp_region_lit ?_
     try simp only [gelS]
     refine wpList_chunk 3 (by kernel_rfl) ?_
     simp only [takS, Nat.reduceAdd]
     repeat (first | go_big_quiet_skip | (go_big_quiet_want; go_big_quiet_op; go_big_quiet_on))
     refine wpQuiet_nil ?_
     refine wpList_nil ?_
     go_wp2
     refine ⟨⟨ky + 1, vo, by omega, ⟨rfl, rfl, rfl, rfl, rfl, rfl, rfl⟩, by show Value.int _ _ = _; congr 1; omega, ?_⟩, ?_⟩
     ·rw [← hWd] at hF
      exact hF
     ·show (Y1 - intOf (.int .i64 _)).toNat < (Y1 - intOf (.int .i64 _)).toNat
      simp only [intOf]; omega
  ·obtain rfl : ky = H := by omega
   have q2 : decide (Y0 + (ky : Int) < Y1) = false := decide_eq_false (by omega)
   have p8 : AtB 30 W b_p8 #[.int .i64 X0, .int .i64 Y0, .int .i64 X1, .int .i64 Y1] := hF.2.2.1
   go_upto_region 8 with fail
   refine wp_region_lit ?_
   try simp only [gelS]
   refine wpList_chunk 4 (by kernel_rfl) ?_
   simp only [takS, Nat.reduceAdd]
   repeat (first | go_big_quiet_skip | (go_big_quiet_want; first | (refine quiet_loadAny (t := 3) rfl _ _ _ rfl (fun w hw => run_load_int ((ov_B p8 w hw).cellL 3 rfl)) (by first | rfl | omega) ?_; simp only [putS]; go_big_quiet_on) | (go_big_quiet_op; go_big_quiet_on)))
   refine wpQuiet_nil ?_
   refine wpList_nil ?_
   go_upto_region 28 with fail
   refine wp_region_lit ?_
   try simp only [gelS]
   refine wpList_chunk 2 (by kernel_rfl) ?_
   simp only [takS, Nat.reduceAdd]
   repeat (first | go_big_quiet_skip | (go_big_quiet_want; go_big_quiet_op; go_big_quiet_on))
   refine wpQuiet_nil ?_
   refine wpList_nil ?_
   go_wp2
   rw [← hH] at hF
   obtain ⟨_, _, _, _, _, op, mk, B⟩ := hF
   have hwb : w.heap.size ≤ b_p8 := by omega
   refine Marks.leaves (n := b_p8) (I := fun W => OwnP b_p8 vo (outlG (setG ls th) ⟨X0, Y0, X1, Y1⟩) W ∧ Below w.heap.size w W) (fun W D hD hdf hi => ⟨hi.1.keptO fun g cur t _ hg => (World.putObj_heap_other (fun e => ?_)).trans hg, Below.grown' hi.2 (Nat.le_refl _) (grownBy_putObj' _ _ _) (fun r e => ?_)⟩) (fun W hi => ⟨_, results_tmp rfl _ _ _, ⟨vo, rfl, by rw [HRR.out]; exact hi.1.rs, hi.2⟩⟩) mk ⟨op, B⟩
   ·rw [e, show W.heap[D]? = _ from hdf] at hg
    cases hg
   ·cases e
    omega
end Go.Proofs.YtamgpfblhlfhaaaGreat
/- Slice literals of several elements; the sanity check of chapter 15's laws. -/
namespace Go.Proofs.YtamgpfblhlfhaaaGreat
open Go.RowKit Go.Shelf Pl
set_option linter.unusedVariables false
set_option linter.unusedSimpArgs false
set_option maxRecDepth 20000
section
variable {α : Type} {k : Nat} {T ST : TypeId} {E : Elt α k T ST}
theorem fill_row (ls : List α) (cs : Array Value) (hs : cs.size = ls.length * k) : Instr.fill (fun i => some (i * k, k)) cs (((ls.map fun x => Value.agg (E.enc x)).zipIdx 0).map fun y => (y.2, y.1)) = some (rowE E ls).toArray := by
 obtain ⟨r, hr1, hr2, hr3⟩ := Great.fill_dense E.pos (ls.map fun x => Value.agg (E.enc x)) 0 cs (fun v hv => by obtain ⟨x, _, rfl⟩ := List.mem_map.1 hv; simp only [Value.cells, E.size]) (by rw [List.length_map, hs, Nat.zero_add]; exact Nat.le_refl _)
 rw [hr1]
 congr 1
 apply Array.ext_getElem?
 intro j
 have hr : (rowE E ls).toArray[j]? = (rowE E ls)[j]? := by rw [List.getElem?_toArray]
 rw [hr3 j, List.length_map, hr, Nat.zero_add]
 by_cases h : j < ls.length * k
 ·obtain ⟨h1, h2, h3⟩ := div_mod_lt E.pos h
  have hx : ls[j / k]? = some ls[j / k] := List.getElem?_eq_getElem h1
  have h4 := rowE_at E ls (j / k) _ hx (j % k) h2
  rw [← h3] at h4
  rw [if_pos ⟨by rw [Nat.zero_mul]; omega, h⟩, h4, Nat.sub_zero, List.getElem?_map, hx]
  simp only [Option.map_some, Option.bind_some, Value.cells]
 ·rw [if_neg (fun h' => h h'.2), Array.getElem?_eq_none (by rw [hs]; exact Nat.le_of_not_lt h), List.getElem?_eq_none (by rw [rowE_length]; exact Nat.le_of_not_lt h)]
variable {ops : Array Oper} {rest : List Oper} {o : Oper} {a : Act} {w : World} {Q : Exit → Act → World → Prop}
theorem owp_bsnE {K : Act → World → Prop} (n : Nat) (ps : Array (Nat × Operand)) (ho : o.op = .buildSlice ST n ps) (ls : List α) (hl : ls.length = n) (hp : (ps.map fun (i, x) => (i, a.eval x)).toList = ((ls.map fun x => Value.agg (E.enc x)).zipIdx 0).map fun y => (y.2, y.1)) (hn : 0 < n) (hk : n * k ≤ 1000)
  (h : ∀ b w', w.heap.size ≤ b → b ≤ w.heap.size → RowAt E w' b ls → Below b w w' → w'.heap.size = b + 1 → K (a.put o.dst (.slice (some ⟨b, 0, none⟩) n n)) w') : o.wp Tryz.prog a w K Q := by
 obtain ⟨i, z, hi, hz, hsz, hby, hzc⟩ := E.facts
 have hp0 := Nat.mul_pos hn E.pos
 refine wp_buildSlice ST T n ps ho (rowE E ls).toArray i z E.und hi hz (by rw [hsz]; omega) (by rw [hsz]; omega) ?_ (h _ _ (Nat.le_refl _) (Nat.le_refl _) (by unfold RowAt AtB; rw [heap_get_alloc, if_pos rfl]) ((Below.refl _ _).alloc (Nat.le_refl _) _) (World.size_alloc _ _))
 rw [hsz, hp]
 exact fill_row ls _ (by rw [hl]; simp)
theorem wpList_bsnE (hw : Region.wanted o (yielded ops a.tmps) = true) (n : Nat) (ps : Array (Nat × Operand)) (ho : o.op = .buildSlice ST n ps) (ls : List α) (hl : ls.length = n) (hp : (ps.map fun (i, x) => (i, a.eval x)).toList = ((ls.map fun x => Value.agg (E.enc x)).zipIdx 0).map fun y => (y.2, y.1)) (hn : 0 < n) (hk : n * k ≤ 1000)
  (h : ∀ b w', w.heap.size ≤ b → b ≤ w.heap.size → RowAt E w' b ls → Below b w w' → w'.heap.size = b + 1 → wpList Tryz.prog ops Q rest (a.put o.dst (.slice (some ⟨b, 0, none⟩) n n)) w') : wpList Tryz.prog ops Q (o :: rest) a w := by
 unfold wpList
 rw [if_pos hw]
 exact .inl (owp_bsnE n ps ho ls hl hp hn hk h)
end
theorem RPoly.one {b c : Nat} {L : List Pnt} {w : World} (hb : RowAt ptE w c L) (h : AtB 22 w b #[.slice (some ⟨c, 0, none⟩) L.length L.length]) : RPoly (.slice (some ⟨b, 0, none⟩) 1 1) [L] w :=
 ⟨[⟨some ⟨c, 0, none⟩, L.length, L.length⟩], RSE.one (E := slE) h, rfl, fun i s l hs hl => by
  cases i with
  | zero =>
   simp only [List.getElem?_cons_zero, Option.some.injEq] at hs hl
   subst hs
   subst hl
   exact hb.rs
  | succ i => simp at hs⟩
theorem wpList_bs1SW {ops : Array Oper} {rest : List Oper} {o : Oper} {a : Act} {w : World} {Q : Exit → Act → World → Prop} (hw : Region.wanted o (yielded ops a.tmps) = true) (y : Operand) (ho : o.op = .buildSlice 55 1 #[(0, y)]) (s : Slc) (hy : a.eval y = s.v)
  (h : ∀ b w', w.heap.size ≤ b → b ≤ w.heap.size → AtB 22 w' b #[s.v] → Below b w w' → w'.heap.size = b + 1 → wpList Tryz.prog ops Q rest (a.put o.dst (.slice (some ⟨b, 0, none⟩) 1 1)) w') : wpList Tryz.prog ops Q (o :: rest) a w := by
 unfold wpList
 rw [if_pos hw]
 exact .inl (owp_bs1S y ho s hy h)
def rowS {α : Type} {k : Nat} {T ST : TypeId} (E : Elt α k T ST) (n : Nat) (m : Nat) (ls : List α) : NSpec := ⟨Nat, ⟨0⟩, fun b => .slice (some ⟨b, 0, none⟩) m m, fun b w => n ≤ b ∧ RowAt E w b ls, fun _ _ _ hb h => ⟨h.1, h.2.of_eq (hb.block _ h.2.lt)⟩⟩
def bsS1 (n : Nat) (t : TypeId) (cs : Array Value) : NSpec := ⟨Nat, ⟨0⟩, fun b => .slice (some ⟨b, 0, none⟩) 1 1, fun b w => n ≤ b ∧ AtB t w b cs, fun _ _ _ hb h => ⟨h.1, h.2.of_eq (hb.block _ h.2.lt)⟩⟩
/-! ### The values of the sanity check -/
def snA : List Pnt := [(0, 0), (2, 0), (2, 1), (0, 1)]
def snB : List Pnt := [(0, 0), (1, 0), (0, 1)]
def snP : Px := ⟨0, 0, 0, 9⟩
def snQ : Px := ⟨0, 0, 0, 1⟩
def snR1 : List TA := [⟨0, 0, cleanT (setT zT 0 0 snP)⟩]
def snR2 : List TA := [⟨0, 0, cleanT (setT (cleanT (setT zT 0 0 snP)) 1 0 snQ)⟩]
theorem sn1 : coverP snA 1 0 = 255 := by decide
theorem sn2 : coverP snB 0 0 = 96 := by decide
theorem sn3 : setR [] 0 0 snP = snR1 := by rfl
theorem sn4 : setR snR1 1 0 snQ = snR2 := by rfl
theorem sn5 : validL snR2 = true := by decide
theorem sn6 : boundL snR2 = ⟨0, 0, 2, 1⟩ := by rfl
theorem sn7 : outlG (setG snR2 1) ⟨0, 0, 2, 1⟩ = [snA] := by decide
theorem snP_ok : snP.ok := by unfold Px.ok snP; simp
theorem snQ_ok : snQ.ok := by unfold Px.ok snQ; simp
theorem snR1_tok : TokL snR1 := by
 have := setR_tok (ls := []) (x := 0) (y := 0) TokL.nil snP_ok
 rw [sn3] at this
 exact this
theorem snR2_tok : TokL snR2 := by
 have := setR_tok (x := 1) (y := 0) snR1_tok snQ_ok
 rw [sn4] at this
 exact this
theorem P_CoverGO (v : Value) (l : List Pnt) (x y n : Int) (w : World) (h : RSE ptE v l w) (hn : l.length ≤ maxLen) (hx : -70000 ≤ x ∧ x ≤ 70000) (hy : -70000 ≤ y ∧ y ≤ 70000) (e : coverP l x y = n) : Calls Tryz.prog 20 #[v, .int .i64 x, .int .i64 y] w fun e w' => e = .returned (.int .i64 n) ∧ Below w.heap.size w w' := e ▸ P_CoverG v l x y w h hn hx hy
set_option maxHeartbeats 4000000 in
theorem sanity15 (w : World) : Calls Tryz.prog 6 #[] w fun e w' => e = .returned (.bool true) ∧ Below w.heap.size w w' := by
 have B := Below.refl w.heap.size w
 go_enter Tryz.func6, Tryz.ntmps6
 go_upto_region 1 with fail
 refine wp_region_lit ?_
 try simp only [gelS]
 refine wpList_chunk 4 (by kernel_rfl) ?_
 simp only [takS, Nat.reduceAdd]
 repeat (first | go_big_quiet_skip | (go_big_quiet_want; go_big_quiet_op; go_big_quiet_on))
 refine wpQuiet_nil ?_
 (refine wpList_bsnE (E := ptE) (by first | rfl | simp [Region.wanted, yielded]) 4 _ rfl snA rfl (by simp only [Act.eval, evlS]; rfl) (by omega) (by omega) ?_; intro b_s10 wn hle hge ht hbn hzn; have hsz := B.size; replace B := B.trans (hbn.mono (by omega)); have hln := Nat.lt_of_lt_of_eq (Nat.lt_succ_self _) hzn.symm; clear hzn; have s10 := ht; clear ht; simp only [putS])
 refine wpList_callF (by first | rfl | simp [Region.wanted, yielded]) rfl (enters_of Tryz.func20 (by kernel_rfl) rfl) (by simp only [Act.eval, evlS]; rfl) ?_
 refine (P_CoverGO _ snA 1 0 255 _ (RowAt.rs s10) (by unfold maxLen snA; simp) (by omega) (by omega) sn1).mono ?_
 rintro e wn ⟨rfl, hbn⟩
 have hsz := B.size
 have hzn := hbn.size
 replace B := B.trans (hbn.mono B.size)
 refine ⟨_, rfl, ?_⟩
 simp only [putS]
 refine wpList_chunk 2 (by kernel_rfl) ?_
 simp only [takS, Nat.reduceAdd]
 repeat (first | go_big_quiet_skip | (go_big_quiet_want; go_big_quiet_op; go_big_quiet_on))
 refine wpQuiet_nil ?_
 refine wpList_nil ?_
 go_upto_region 2 with fail
 refine wp_region_lit ?_
 try simp only [gelS]
 refine wpList_chunk 3 (by kernel_rfl) ?_
 simp only [takS, Nat.reduceAdd]
 repeat (first | go_big_quiet_skip | (go_big_quiet_want; go_big_quiet_op; go_big_quiet_on))
 refine wpQuiet_nil ?_
 (refine wpList_bsnE (E := ptE) (by first | rfl | simp [Region.wanted, yielded]) 3 _ rfl snB rfl (by simp only [Act.eval, evlS]; rfl) (by omega) (by omega) ?_; intro b_s16 wn hle hge ht hbn hzn; have hsz := B.size; replace B := B.trans (hbn.mono (by omega)); have hln := Nat.lt_of_lt_of_eq (Nat.lt_succ_self _) hzn.symm; clear hzn; (try have hlt := s10.lt); have s16 := ht; clear ht; simp only [putS])
 refine wpList_callF (by first | rfl | simp [Region.wanted, yielded]) rfl (enters_of Tryz.func20 (by kernel_rfl) rfl) (by simp only [Act.eval, evlS]; rfl) ?_
 refine (P_CoverGO _ snB 0 0 96 _ (RowAt.rs s16) (by unfold maxLen snB; simp) (by omega) (by omega) sn2).mono ?_
 rintro e wn ⟨rfl, hbn⟩
 have hsz := B.size
 have hzn := hbn.size
 replace B := B.trans (hbn.mono B.size)
 refine ⟨_, rfl, ?_⟩
 simp only [putS]
 refine wpList_chunk 2 (by kernel_rfl) ?_
 simp only [takS, Nat.reduceAdd]
 repeat (first | go_big_quiet_skip | (go_big_quiet_want; go_big_quiet_op; go_big_quiet_on))
 refine wpQuiet_nil ?_
 refine wpList_nil ?_
 have SET1 : Hid (∀ w, Calls Tryz.prog 21 #[.agg #[.slice none 0 0], .int .i64 0, .int .i64 0, .agg #[.int .u8 0, .int .u8 0, .int .u8 0, .int .u8 9]] w fun e w' => ∃ n a c, e = .returned (.tuple #[.agg #[.slice a 1 c], .int .i64 n]) ∧ RS (.slice a 1 c) snR1 w' ∧ Below w.heap.size w w') := Lib.hid fun w =>
  (P_SetR _ [] 0 0 snP w (RS.nil w) TokL.nil (by unfold maxLen; simp) (by rfl) (by rfl) snP_ok).mono fun e w' ⟨v, he, hr, hb⟩ => by
   obtain ⟨a, c, rfl, _⟩ := hr.len
   rw [sn3] at he hr
   exact ⟨_, a, c, he, hr, hb⟩
 have SET2 : Hid (∀ v w, RS v snR1 w → Calls Tryz.prog 21 #[.agg #[v], .int .i64 1, .int .i64 0, .agg #[.int .u8 0, .int .u8 0, .int .u8 0, .int .u8 1]] w fun e w' => ∃ n a c, e = .returned (.tuple #[.agg #[.slice a 1 c], .int .i64 n]) ∧ RS (.slice a 1 c) snR2 w' ∧ Below w.heap.size w w') := Lib.hid fun v w h =>
  (P_SetR _ snR1 1 0 snQ w h snR1_tok (by unfold maxLen snR1; simp) (by rfl) (by rfl) snQ_ok).mono fun e w' ⟨v, he, hr, hb⟩ => by
   obtain ⟨a, c, rfl, _⟩ := hr.len
   rw [sn4] at he hr
   exact ⟨_, a, c, he, hr, hb⟩
 have OUT : Hid (∀ v w, RS v snR2 w → Calls Tryz.prog 22 #[.agg #[v], .int .i64 1] w fun e w' => ∃ a c, e = .returned (.slice a 1 c) ∧ RPoly (.slice a 1 c) [snA] w' ∧ Below w.heap.size w w') := Lib.hid fun v w h =>
  (P_Outline1 _ snR2 1 w h snR2_tok (by unfold maxLen snR2; simp) sn5 (by omega) (by rfl) (by rw [sn6]; simp)).mono fun e w' ⟨v, he, hr, hb⟩ => by
   rw [sn6, sn7] at hr
   obtain ⟨a, c, rfl, _⟩ := hr.len
   exact ⟨a, c, he, hr, hb⟩
 go_upto_region 3 with fail
 refine wp_region_lit ?_
 try simp only [gelS]
 refine wpList_chunk 2 (by kernel_rfl) ?_
 simp only [takS, Nat.reduceAdd]
 repeat (first | go_big_quiet_skip | (go_big_quiet_want; go_big_quiet_op; go_big_quiet_on))
 refine wpQuiet_nil ?_
 refine wpList_callF (by first | rfl | simp [Region.wanted, yielded]) rfl (enters_of Tryz.func21 (by kernel_rfl) rfl) (by simp only [Act.eval, evlS]; rfl) ?_
 refine (SET1.out _).mono ?_
 rintro e wn ⟨n1, a1, c1, rfl, rs1, hbn⟩
 have hsz := B.size
 have hzn := hbn.size
 replace B := B.trans (hbn.mono B.size)
 (try replace rs1 := rs1.below hbn)
 refine ⟨_, rfl, ?_⟩
 simp only [putS]
 refine wpList_chunk 3 (by kernel_rfl) ?_
 simp only [takS, Nat.reduceAdd]
 repeat (first | go_big_quiet_skip | (go_big_quiet_want; go_big_quiet_op; go_big_quiet_on))
 refine wpQuiet_nil ?_
 (refine wpList_allocBk (t := 34) rfl _ (run_alloc_R _ _ rfl) ?_; intro b_r3 wn hle hge ht hbn hzn; have hsz := B.size; replace B := B.trans (hbn.mono (by omega)); have hln := Nat.lt_of_lt_of_eq (Nat.lt_succ_self _) hzn.symm; clear hzn; (try have hlt := s10.lt); (try have hlt := s16.lt); (try have hlt := rs1.lt); (try replace rs1 := rs1.below (hbn.mono hle)); have r3 := ht; clear ht; simp only [putS])
 (refine wpList_storeB (t := 34) rfl _ _ rfl _ rfl _ rfl r3 (by kernel_rfl) rfl (by simp [Value.oneCell']) ?_; have r3o := r3; clear r3; intro wn ht hcn hzn; (try replace rs1 := rs1.chg r3o (by simp [rcA]) hcn); have hsz := B.size; replace hzn := Nat.le_of_eq hzn.symm; replace B := Chg.below B hcn (by omega) B.size; (try replace rs1 := rs1.of_eq (hcn.block _ rs1.lt (by omega))); have r3 := ht; clear ht; simp only [putS])
 refine wpList_chunk 1 (by kernel_rfl) ?_
 simp only [takS, Nat.reduceAdd]
 repeat (first | go_big_quiet_skip | (go_big_quiet_want; go_big_quiet_op; go_big_quiet_on))
 refine wpQuiet_nil ?_
 refine wpList_nil ?_
 go_upto_region 4 with fail
 refine wp_region_lit ?_
 try simp only [gelS]
 refine wpList_chunk 2 (by kernel_rfl) ?_
 simp only [takS, Nat.reduceAdd]
 repeat (first | go_big_quiet_skip | (go_big_quiet_want; first | (refine quiet_loadAny (t := 34) rfl _ _ _ rfl (fun w hw => run_load_B (ov_B r3 w hw) Tryz.isAgg34 (by kernel_rfl)) (by rfl) ?_; simp only [putS]; go_big_quiet_on) | (go_big_quiet_op; go_big_quiet_on)))
 refine wpQuiet_nil ?_
 refine wpList_callF (by first | rfl | simp [Region.wanted, yielded]) rfl (enters_of Tryz.func21 (by kernel_rfl) rfl) (by simp only [Act.eval, evlS]; rfl) ?_
 refine (SET2.out _ _ rs1).mono ?_
 rintro e wn ⟨n2, a2, c2, rfl, rs2, hbn⟩
 have hsz := B.size
 have hzn := hbn.size
 replace B := B.trans (hbn.mono B.size)
 (try replace rs1 := rs1.below hbn)
 (try replace r3 := r3.below hbn)
 clear rs1
 have rs1 := rs2
 clear rs2
 refine ⟨_, rfl, ?_⟩
 simp only [putS]
 refine wpList_chunk 3 (by kernel_rfl) ?_
 simp only [takS, Nat.reduceAdd]
 repeat (first | go_big_quiet_skip | (go_big_quiet_want; go_big_quiet_op; go_big_quiet_on))
 refine wpQuiet_nil ?_
 (refine wpList_storeB (t := 34) rfl _ _ rfl _ rfl _ rfl r3 (by kernel_rfl) rfl (by simp [Value.oneCell']) ?_; have r3o := r3; clear r3; intro wn ht hcn hzn; (try replace rs1 := rs1.chg r3o (by simp [rcA]) hcn); have hsz := B.size; replace hzn := Nat.le_of_eq hzn.symm; replace B := Chg.below B hcn (by omega) B.size; (try replace rs1 := rs1.of_eq (hcn.block _ rs1.lt (by omega))); have r3 := ht; clear ht; simp only [putS])
 refine wpList_nil ?_
 go_upto_region 5 with fail
 refine wp_region_lit ?_
 try simp only [gelS]
 refine wpList_chunk 1 (by kernel_rfl) ?_
 simp only [takS, Nat.reduceAdd]
 repeat (first | go_big_quiet_skip | (go_big_quiet_want; first | (refine quiet_loadAny (t := 34) rfl _ _ _ rfl (fun w hw => run_load_B (ov_B r3 w hw) Tryz.isAgg34 (by kernel_rfl)) (by rfl) ?_; simp only [putS]; go_big_quiet_on) | (go_big_quiet_op; go_big_quiet_on)))
 refine wpQuiet_nil ?_
 refine wpList_callF (by first | rfl | simp [Region.wanted, yielded]) rfl (enters_of Tryz.func22 (by kernel_rfl) rfl) (by simp only [Act.eval, evlS]; rfl) ?_
 refine (OUT.out _ _ rs1).mono ?_
 rintro e wn ⟨a3, c3, rfl, po, hbn⟩
 have hsz := B.size
 have hzn := hbn.size
 replace B := B.trans (hbn.mono B.size)
 (try replace po := po.below hbn)
 refine ⟨_, rfl, ?_⟩
 simp only [putS]
 refine wpList_chunk 1 (by kernel_rfl) ?_
 simp only [takS, Nat.reduceAdd]
 repeat (first | go_big_quiet_skip | (go_big_quiet_want; go_big_quiet_op; go_big_quiet_on))
 refine wpQuiet_nil ?_
 refine wpList_nil ?_
 go_upto_region 6 with fail
 refine wp_region_lit ?_
 try simp only [gelS]
 refine wpList_chunk 10 (by kernel_rfl) ?_
 simp only [takS, Nat.reduceAdd]
 repeat (first | go_big_quiet_skip | (go_big_quiet_want; go_big_quiet_op; go_big_quiet_on))
 refine wpQuiet_nil ?_
 (refine wpList_bsnE (E := ptE) (by first | rfl | simp [Region.wanted, yielded]) 4 _ rfl snA rfl (by simp only [Act.eval, evlS]; rfl) (by omega) (by omega) ?_; intro b_s43 wn hle hge ht hbn hzn; have hsz := B.size; replace B := B.trans (hbn.mono (by omega)); have hln := Nat.lt_of_lt_of_eq (Nat.lt_succ_self _) hzn.symm; clear hzn; (try have hlt := s10.lt); (try have hlt := s16.lt); (try have hlt := rs1.lt); (try have hlt := r3.lt); (try have hlt := po.lt); (try replace po := po.below (hbn.mono hle)); have s43 := ht; clear ht; simp only [putS])
 (refine wpList_bs1SW (by first | rfl | simp [Region.wanted, yielded]) _ rfl ⟨some ⟨b_s43, 0, none⟩, 4, 4⟩ rfl ?_; intro b_s44 wn hle hge ht hbn hzn; have hsz := B.size; replace B := B.trans (hbn.mono (by omega)); have hln := Nat.lt_of_lt_of_eq (Nat.lt_succ_self _) hzn.symm; clear hzn; (try have hlt := s10.lt); (try have hlt := s16.lt); (try have hlt := rs1.lt); (try have hlt := r3.lt); (try have hlt := po.lt); (try replace po := po.below (hbn.mono hle)); (try have hlt := s43.lt); (try replace s43 := s43.below (hbn.mono hle)); have s44 := ht; clear ht; simp only [putS])
 refine wpList_callF (by first | rfl | simp [Region.wanted, yielded]) rfl (enters_of Tryz.func23 (by kernel_rfl) rfl) (by simp only [Act.eval, evlS]; rfl) ?_
 refine (R_SamePaths _ _ [snA] [snA] _ po (RPoly.one s43 s44) (by simp) (by simp) (by simp [snA])).mono ?_
 rintro e wn ⟨rfl, hbn⟩
 have hsz := B.size
 have hzn := hbn.size
 replace B := B.trans (hbn.mono B.size)
 refine ⟨_, rfl, ?_⟩
 simp only [putS]
 refine wpList_chunk 2 (by kernel_rfl) ?_
 simp only [takS, Nat.reduceAdd]
 repeat (first | go_big_quiet_skip | (go_big_quiet_want; go_big_quiet_op; go_big_quiet_on))
 refine wpQuiet_nil ?_
 refine wpList_nil ?_
 go_wp2
 go_ret
 exact ⟨rfl, B⟩
end Go.Proofs.YtamgpfblhlfhaaaGreat
/- How this seat's arguments are opened: slices of integers, rectangles, generated rasters. -/
namespace Go.Proofs.YtamgpfblhlfhaaaGreat
open Go.ChangeShapes Go.WideShapes Go.ChangeAt Go.RowKit Pl
set_option linter.unusedVariables false
set_option linter.unusedSimpArgs false
set_option maxRecDepth 20000
theorem reach_44 : reachBytes ≤ 140737488351232 := by decide
section
variable {H : Type} {enc : TypeId × Value → H} {w : World} {base : Nat} {spare : Nat → Bool} {held : Bool}
theorem addr_add0 (b off n : Nat) : (Addr.add ⟨b, off, none⟩ n) = ⟨b, off + n, none⟩ := by
 unfold Addr.add; split
 ·rename_i h; subst h; rfl
 ·rfl
end
end Go.Proofs.YtamgpfblhlfhaaaGreat
/- Opening arguments of chapter 15's laws: slices of points, arrays of four and five integers. -/
namespace Go.Proofs.YtamgpfblhlfhaaaGreat
open Go.RowKit Go.Shelf Pl
open Go.ChangeShapes Go.WideShapes Go.ChangeAt
set_option linter.unusedVariables false
set_option linter.unusedSimpArgs false
set_option maxRecDepth 20000
section
variable {H : Type} {enc : TypeId × Value → H} {w : World} {base : Nat} {spare : Nat → Bool} {held : Bool}
end
end Go.Proofs.YtamgpfblhlfhaaaGreat
/- Slices of integers opened with their bounds; the reference's Mask. -/
namespace Go.Proofs.YtamgpfblhlfhaaaGreat
open Go.RowKit Go.Shelf Pl
set_option linter.unusedVariables false
set_option linter.unusedSimpArgs false
set_option maxRecDepth 20000
def WfL (L : List Int) : Prop := ∀ x ∈ L, (Lit.int .i64 x).wf = true
section
open Go.ChangeShapes Go.WideShapes Go.ChangeAt
variable {H : Type} {enc : TypeId × Value → H} {w : World} {base : Nat} {spare : Nat → Bool} {held : Bool}
theorem trod_intsW {fuel : Nat} {cs : List Value} {x : DataW H × List MemPlace} (h : DataW.trod enc Tryz.prog w base spare held fuel 23 cs = some x) (hw : ∀ n ∈ x.1.weights Tryz.prog 23, n ≤ reachBytes) :
  ∃ v L, cs = [v] ∧ RSE inE v L w ∧ L.length ≤ 17592186044416 ∧ WfL L := by
 have hC : Tryz.prog.cellsOf 3 = 1 := by kernel_rfl
 have hB : Tryz.prog.bytesOf 3 = 8 := by kernel_rfl
 rcases open_ints Tryz.underlying23 Tryz.underlying3 hC h with ⟨rfl, rfl⟩ | ⟨a, len, cap, zs, rfl, _, hl, hcap, hz, rfl, hcell, hwf⟩
 ·exact ⟨_, [], rfl, RSE.nil w, by simp, fun x hx => by cases hx⟩
 ·have hzl : len ≤ zs.length := by rw [hz]; split <;> omega
  have htl : (zs.take len).length = len := by rw [List.length_take, Nat.min_eq_left hzl]
  refine ⟨_, zs.take len, rfl, ?_, ?_, fun x hx => hwf x (List.mem_of_mem_take hx)⟩
  ·by_cases h0 : len = 0
   ·subst h0; exact .inr (.inr ⟨a, cap, rfl, by simp⟩)
   ·obtain ⟨b, off, spot⟩ := a
    have c0 := hcell 0 (by omega)
    have hspot : spot = none := by simpa [Addr.add] using World.cell?_spot c0
    subst hspot
    simp only [addr_add0] at hcell c0
    refine .inr (.inl ⟨b, off, cap, by rw [htl], by rw [htl]; exact hl, fun _ => ⟨World.block_lt_of_cell? w _ c0, fun i x hi j hj => ?_⟩⟩)
    obtain rfl : j = 0 := by omega
    have hil : i < len := by rw [← htl]; exact (List.getElem?_eq_some_iff.1 hi).1
    rw [List.getElem?_take_of_lt hil] at hi
    rw [Nat.mul_one, Nat.add_zero, hcell i (by omega), List.getD_eq_getElem?_getD, hi]
    rfl
  ·rw [htl]
   have := hw ((len + (zs.length - len)) * 8) (by simp [DataW.weights, Tryz.underlying23, hB, lits, Nat.min_eq_left hzl])
   have := reach_44
   omega
end
theorem WfL.at {L : List Int} (h : WfL L) {i : Nat} {x : Int} (hi : L[i]? = some x) : -9223372036854775808 ≤ x ∧ x ≤ 9223372036854775807 := by
 have := h x (List.mem_of_getElem? hi)
 have hmin : IntKind.i64.min = -9223372036854775808 := rfl
 have hmax : IntKind.i64.max = 9223372036854775807 := rfl
 simp only [Lit.wf, Bool.and_eq_true, decide_eq_true_eq] at this
 omega
theorem tdiv_bd (x n : Int) (hn : 0 < n) (h : -9223372036854775808 ≤ x ∧ x ≤ 9223372036854775807) : -9223372036854775808 ≤ x.tdiv n ∧ x.tdiv n ≤ 9223372036854775807 := by
 rcases Int.le_total 0 x with h0 | h0
 ·have e := Int.tdiv_eq_ediv_of_nonneg (b := n) h0
  have h1 := Int.ediv_nonneg h0 (show 0 ≤ n by omega)
  have h2 := Int.ediv_le_self n h0
  omega
 ·have e := Int.tdiv_eq_ediv_of_nonneg (b := n) (show 0 ≤ -x by omega)
  have h1 := Int.ediv_nonneg (show 0 ≤ -x by omega) (show 0 ≤ n by omega)
  have h2 := Int.ediv_le_self n (show 0 ≤ -x by omega)
  rw [Int.neg_tdiv] at e
  omega
theorem R15_restO (x n r : Int) (hn : 0 < n ∧ n ≤ 1000000) (e : x % n = r) (w : World) : Calls Tryz.prog 24 #[.int .i64 x, .int .i64 n] w fun e w' => e = .returned (.int .i64 r) ∧ Below w.heap.size w w' := e ▸ R15_rest x n hn w
theorem numI_at {q : List Int} {i : Nat} (h : i < q.length) : q[i]? = some (numI q i) := by
 unfold numI
 rw [List.getD_eq_getElem?_getD, List.getElem?_eq_getElem h]
 rfl
theorem R_SetL (v : Value) (ls : List TA) (x y A : Int) (w : World) (h : RS v ls w) (tk : TokL ls) (hn : ls.length ≤ maxLen) (hx : (Lit.int .i64 x).wf = true) (hy : (Lit.int .i64 y).wf = true) (hA : 0 ≤ A ∧ A ≤ 255) (L : List TA) (e1 : setR ls x y ⟨0, 0, 0, A⟩ = L) : Calls Tryz.prog 35 #[.agg #[v], .int .i64 x, .int .i64 y, .agg #[.int .u8 0, .int .u8 0, .int .u8 0, .int .u8 A]] w fun e w' => ∃ v', e = .returned (.agg #[v', .int .i64 (setE ls x y ⟨0, 0, 0, A⟩)]) ∧ RS v' L w' ∧ Below w.heap.size w w' :=
 e1 ▸ R_SetR v ls x y ⟨0, 0, 0, A⟩ w h tk hn hx hy ⟨by simp, by simp, by simp, hA⟩
set_option maxHeartbeats 8000000 in
theorem R_Mask (v : Value) (q : List Int) (w : World) (h : RSE inE v q w) (hn : q.length ≤ 17592186044416) (hwf : WfL q) : Calls Tryz.prog 12 #[v] w fun e w' => ∃ a c, e = .returned (.agg #[.slice a (maskG q).length c]) ∧ RS (.slice a (maskG q).length c) (maskG q) w' ∧ Below w.heap.size w w' := by
 have B := Below.refl w.heap.size w
 obtain ⟨a, c, rfl, hc⟩ := h.len
 have HS := Lib.hid h
 have HW := Lib.hid hwf
 clear h hwf
 have rs1 : RS (.slice none 0 0) [] w := RS.nil w
 go_enter Tryz.func12, Tryz.ntmps12
 go_upto_region 0 with fail
 refine wp_region_lit ?_
 try simp only [gelS]
 (refine wpList_allocBk (t := 34) rfl _ (run_alloc_R _ _ rfl) ?_; intro b_r2 wn hle hge ht hbn hzn; have hsz := B.size; replace B := B.trans (hbn.mono (by omega)); have hln := Nat.lt_of_lt_of_eq (Nat.lt_succ_self _) hzn.symm; clear hzn; (try have hlt := rs1.lt); (try replace rs1 := rs1.below (hbn.mono hle)); have r2 := ht; clear ht; simp only [putS])
 refine wpList_nil ?_
 go_upto_region 1 with fail
 refine wp_region_lit ?_
 try simp only [gelS]
 (refine wpList_allocBk (t := 34) rfl _ (run_alloc_R _ _ rfl) ?_; intro b_r3 wn hle hge ht hbn hzn; have hsz := B.size; replace B := B.trans (hbn.mono (by omega)); have hln := Nat.lt_of_lt_of_eq (Nat.lt_succ_self _) hzn.symm; clear hzn; (try have hlt := r2.lt); (try replace r2 := r2.below (hbn.mono hle)); (try have hlt := rs1.lt); (try replace rs1 := rs1.below (hbn.mono hle)); have r3 := ht; clear ht; simp only [putS])
 refine wpList_nil ?_
 go_upto_region 2 with fail
 refine wp_region_lit ?_
 try simp only [gelS]
 refine wpList_chunk 1 (by kernel_rfl) ?_
 simp only [takS, Nat.reduceAdd]
 repeat (first | go_big_quiet_skip | (go_big_quiet_want; go_big_quiet_op; go_big_quiet_on))
 refine wpQuiet_nil ?_
 refine wpList_nil ?_
 have k1 : w.heap.size ≤ b_r2 := by omega
 have k2 : b_r2 < b_r3 := by have := r2.lt; omega
 have k3 := r3.lt
 go_wp2
 go_loopw [4, 5, 6, 7, 8] (fun iv _ _ _ _ wr => ∃ (k : Nat) (L : List TA) (ao : Option Addr) (co : Nat), k ≤ maskN q ∧ iv = .int .i64 (2 * (k : Int)) ∧ Hid (maskK q k = L) ∧ Below w.heap.size w wr ∧ AtB 34 wr b_r2 #[.slice none 0 0] ∧ AtB 34 wr b_r3 #[.slice ao L.length co] ∧ RS (.slice ao L.length co) L wr) (fun iv _ _ _ _ _ => (60 - intOf iv).toNat)
 case atStart => exact ⟨0, [], _, _, Nat.zero_le _, rfl, Lib.hid rfl, B, r2, r3, rs1⟩
 case round =>
  clear B r2 r3 rs1
  obtain ⟨k, L, ao, co, hk, rfl, HL, B, r2, r3, rs1⟩ := hrel
  have hpd : maskN q = min (q.length / 2) 30 := rfl
  have hpn : maskN q ≤ 30 ∧ 2 * maskN q ≤ q.length := by omega
  have HPD := Lib.hid hpd
  clear hpd
  by_cases hkn : k < maskN q
  ·have q1 : decide (2 * (k : Int) + 1 < (q.length : Int)) = true := decide_eq_true (by omega)
   have q2 : decide (2 * (k : Int) < 60) = true := decide_eq_true (by omega)
   have q1' : decide (2 * k + 1 < q.length) = true := decide_eq_true (by omega)
   have q2' : decide (2 * k < q.length) = true := decide_eq_true (by omega)
   obtain ⟨g, o, rfl, rc0⟩ := HS.out.at (by omega)
   have rc := rc0.of_eq (B.block _ rc0.lt)
   have hq0 := numI_at (q := q) (i := 2 * k) (by omega)
   have hq1 := numI_at (q := q) (i := 2 * k + 1) (by omega)
   have HST := Lib.hid (show maskK q (k + 1) = mrunK L (numI q (2 * k)) (numI q (2 * k + 1)) (mkN (numI q (2 * k))) from by show mrunK (maskK q k) _ _ _ = _; rw [HL.out])
   have HP := Lib.hid (show ∀ j, j ≤ mkN (numI q (2 * k)) → MaskP (mrunK L (numI q (2 * k)) (numI q (2 * k + 1)) j) from fun j hj => mrunK_P (HL.out ▸ maskK_P q k) _ _ j hj)
   have hwx := HW.out.at hq0
   generalize numI q (2 * k) = x at *
   generalize numI q (2 * k + 1) = y at *
   have hd1 : x.tdiv 16 = x.tdiv 16 := rfl
   have hb1 := tdiv_bd x 16 (by omega) hwx
   have hb2 := tdiv_bd x 256 (by omega) hwx
   obtain ⟨X, hX⟩ : ∃ X, x % 16 = X := ⟨_, rfl⟩
   obtain ⟨Y, hY⟩ : ∃ Y, x.tdiv 16 % 16 = Y := ⟨_, rfl⟩
   obtain ⟨Z, hZ⟩ : ∃ Z, x.tdiv 256 % 3 = Z := ⟨_, rfl⟩
   obtain ⟨A, hA⟩ : ∃ A, y % 256 = A := ⟨_, rfl⟩
   have bX : 0 ≤ X ∧ X ≤ 15 := by omega
   have bY : 0 ≤ Y ∧ Y ≤ 15 := by omega
   have bZ : 0 ≤ Z ∧ Z ≤ 2 := by omega
   have bA : 0 ≤ A ∧ A ≤ 255 := by omega
   have HX := Lib.hid hX
   have HY := Lib.hid hY
   have HZ := Lib.hid hZ
   have HA := Lib.hid hA
   have HR := Lib.hid (show ∀ j : Nat, setR (mrunK L x y j) (X - 4 + (j : Int)) (Y - 4) ⟨0, 0, 0, A⟩ = mrunK L x y (j + 1) from fun j => by
    show _ = setR (mrunK L x y j) (mkX x + (j : Int)) (mkY x) (mkP y)
    unfold mkX mkY mkP
    rw [hX, hY, hA])
   obtain ⟨D1, hD1⟩ : ∃ D, x.tdiv 16 = D := ⟨_, rfl⟩
   obtain ⟨D2, hD2⟩ : ∃ D, x.tdiv 256 = D := ⟨_, rfl⟩
   rw [hD1] at hb1
   rw [hD2] at hb2
   have HD1 := Lib.hid (show D1 % 16 = Y from by rw [← hD1]; exact hY)
   have HD2 := Lib.hid (show D2 % 3 = Z from by rw [← hD2]; exact hZ)
   have HN := Lib.hid (show (mkN x : Int) = 1 + Z from by unfold mkN; rw [hZ]; omega)
   clear hX hY hZ hA hd1
   go_upto_region 3 with fail
   refine wp_region_lit ?_
   try simp only [gelS]
   refine wpList_chunk 3 (by kernel_rfl) ?_
   simp only [takS, Nat.reduceAdd]
   repeat (first | go_big_quiet_skip | (go_big_quiet_want; go_big_quiet_op; go_big_quiet_on))
   refine wpQuiet_nil ?_
   refine wpList_lenS (by first | rfl | simp [Region.wanted, yielded]) rfl Tryz.underlying23 rfl ?_
   simp only [putS]
   refine wpList_chunk 5 (by kernel_rfl) ?_
   simp only [takS, Nat.reduceAdd]
   repeat (first | go_big_quiet_skip | (go_big_quiet_want; go_big_quiet_op; go_big_quiet_on))
   refine wpQuiet_nil ?_
   refine wpList_nil ?_
   go_upto_region 5 with fail
   refine wp_region_lit ?_
   try simp only [gelS]
   refine wpList_chunk 4 (by kernel_rfl) ?_
   simp only [takS, Nat.reduceAdd]
   repeat (first | go_big_quiet_skip | (go_big_quiet_want; first | (refine quiet_loadAny (t := 3) rfl _ _ _ rfl (fun w hw => run_load_int (rci_int (ov_rce rc w hw) hq0)) (by first | rfl | omega) ?_; simp only [putS]; go_big_quiet_on) | (go_big_quiet_op; go_big_quiet_on)))
   refine wpQuiet_nil ?_
   refine wpList_callF (by first | rfl | simp [Region.wanted, yielded]) rfl (enters_of Tryz.func24 (by kernel_rfl) rfl) (by simp only [Act.eval, evlS]; rfl) ?_
   refine (R15_restO x 16 X (by omega) HX.out _).mono ?_
   rintro e wn ⟨rfl, hbn⟩
   have hsz := B.size
   have hzn := hbn.size
   replace B := B.trans (hbn.mono B.size)
   (try replace r2 := r2.below hbn)
   (try replace r3 := r3.below hbn)
   (try replace rc := rc.below hbn)
   (try replace rs1 := rs1.below hbn)
   refine ⟨_, rfl, ?_⟩
   simp only [putS]
   refine wpList_chunk 2 (by kernel_rfl) ?_
   simp only [takS, Nat.reduceAdd]
   repeat (first | go_big_quiet_skip | (go_big_quiet_want; go_big_quiet_op; go_big_quiet_on))
   refine wpQuiet_nil ?_
   refine wpList_nil ?_
   go_upto_region 6 with fail
   refine wp_region_lit ?_
   try simp only [gelS]
   refine wpList_chunk 5 (by kernel_rfl) ?_
   simp only [takS, Nat.reduceAdd]
   repeat (first | go_big_quiet_skip | (go_big_quiet_want; first | (refine quiet_loadAny (t := 3) rfl _ _ _ rfl (fun w hw => run_load_int (rci_int (ov_rce rc w hw) hq0)) (by first | rfl | omega) ?_; simp only [putS]; go_big_quiet_on) | (go_big_quiet_op; go_big_quiet_on)))
   refine wpQuiet_nil ?_
   refine wpList_callF (by first | rfl | simp [Region.wanted, yielded]) rfl (enters_of Tryz.func24 (by kernel_rfl) rfl) (by simp only [Act.eval, evlS]; rfl) ?_
   refine (R15_restO D1 16 Y (by omega) HD1.out _).mono ?_
   rintro e wn ⟨rfl, hbn⟩
   have hsz := B.size
   have hzn := hbn.size
   replace B := B.trans (hbn.mono B.size)
   (try replace r2 := r2.below hbn)
   (try replace r3 := r3.below hbn)
   (try replace rc := rc.below hbn)
   (try replace rs1 := rs1.below hbn)
   refine ⟨_, rfl, ?_⟩
   simp only [putS]
   refine wpList_chunk 2 (by kernel_rfl) ?_
   simp only [takS, Nat.reduceAdd]
   repeat (first | go_big_quiet_skip | (go_big_quiet_want; go_big_quiet_op; go_big_quiet_on))
   refine wpQuiet_nil ?_
   refine wpList_nil ?_
   go_upto_region 7 with fail
   refine wp_region_lit ?_
   try simp only [gelS]
   refine wpList_chunk 1 (by kernel_rfl) ?_
   simp only [takS, Nat.reduceAdd]
   repeat (first | go_big_quiet_skip | (go_big_quiet_want; go_big_quiet_op; go_big_quiet_on))
   refine wpQuiet_nil ?_
   refine wpList_nil ?_
   have HRC := Lib.hid rc0
   clear rc0 rc
   go_wp2
   go_loopw [7, 8] (fun jv _ wr => ∃ (j : Nat) (M : List TA) (ao : Option Addr) (co : Nat), (j : Int) ≤ 1 + Z ∧ jv = .int .i64 (j : Int) ∧ Hid (mrunK L x y j = M) ∧ Below w.heap.size w wr ∧ AtB 34 wr b_r2 #[.slice none 0 0] ∧ AtB 34 wr b_r3 #[.slice ao M.length co] ∧ RS (.slice ao M.length co) M wr) (fun jv _ _ => (10 - intOf jv).toNat)
   case atStart => exact ⟨0, L, _, _, by omega, rfl, Lib.hid rfl, B, r2, r3, rs1⟩
   case round =>
    clear B r2 r3 rs1
    obtain ⟨j, M, ao', co', hj, rfl, HM, B, r2, r3, rs1⟩ := hrel
    have rc := HRC.out.of_eq (B.block _ HRC.out.lt)
    have hjn := HN.out
    have HMP := Lib.hid (HM.out ▸ HP.out j (by omega))
    clear hjn
    by_cases hjz : (j : Int) < 1 + Z
    ·have q3 : decide ((j : Int) < 1 + Z) = true := decide_eq_true hjz
     have HE := Lib.hid (show setR M (X - 4 + (j : Int)) (Y - 4) ⟨0, 0, 0, A⟩ = mrunK L x y (j + 1) from by rw [← HM.out]; exact HR.out j)
     obtain ⟨M', hM'⟩ : ∃ M', setR M (X - 4 + (j : Int)) (Y - 4) ⟨0, 0, 0, A⟩ = M' := ⟨_, rfl⟩
     have HM' := Lib.hid hM'
     clear hM'
     go_upto_region 8 with fail
     refine wp_region_lit ?_
     try simp only [gelS]
     refine wpList_chunk 6 (by kernel_rfl) ?_
     simp only [takS, Nat.reduceAdd]
     repeat (first | go_big_quiet_skip | (go_big_quiet_want; first | (refine quiet_loadAny (t := 3) rfl _ _ _ rfl (fun w hw => run_load_int (rci_int (ov_rce rc w hw) hq0)) (by first | rfl | omega) ?_; simp only [putS]; go_big_quiet_on) | (go_big_quiet_op; go_big_quiet_on)))
     refine wpQuiet_nil ?_
     refine wpList_callF (by first | rfl | simp [Region.wanted, yielded]) rfl (enters_of Tryz.func24 (by kernel_rfl) rfl) (by simp only [Act.eval, evlS]; rfl) ?_
     refine (R15_restO D2 3 Z (by omega) HD2.out _).mono ?_
     rintro e wn ⟨rfl, hbn⟩
     have hsz := B.size
     have hzn := hbn.size
     replace B := B.trans (hbn.mono B.size)
     (try replace r2 := r2.below hbn)
     (try replace r3 := r3.below hbn)
     (try replace rc := rc.below hbn)
     (try replace rs1 := rs1.below hbn)
     refine ⟨_, rfl, ?_⟩
     simp only [putS]
     refine wpList_chunk 2 (by kernel_rfl) ?_
     simp only [takS, Nat.reduceAdd]
     repeat (first | go_big_quiet_skip | (go_big_quiet_want; go_big_quiet_op; go_big_quiet_on))
     refine wpQuiet_nil ?_
     refine wpList_nil ?_
     have wx1 : (Lit.int .i64 (X - 4 + (j : Int))).wf = true := wf_mk (by omega) (by omega)
     have wy1 : (Lit.int .i64 (Y - 4)).wf = true := wf_mk (by omega) (by omega)
     go_upto_region 10 with fail
     try simp only [gelS]
     try have lx_r2 := r2.lt
     try have lx_r3 := r3.lt
     try have lx_rc := rc.lt
     try have lx_rs1 := rs1.lt
     refine wp_region_RL 15 [(10, detS ?v1_10), (13, gotS (M') (setE M (X - 4 + (j : Int)) (Y - 4) ⟨0, 0, 0, A⟩)), (14, ptrS (wn.heap.size) 63 #[.slice none 0 0, .int .i64 0])] (by kernel_rfl) (by kernel_rfl) (by kernel_rfl) ?_
     rotate_left 1
     simp only [takS, Nat.reduceAdd]
     refine wpRL_chunk 10 (by kernel_rfl) ?_
     simp only [takS, Nat.reduceAdd]
     repeat (first | go_big_quiet_skip | (go_big_quiet_want; first | (refine quiet_loadAny (t := 34) rfl _ _ _ rfl (fun w hw => run_load_B (ov_B r3 w hw) Tryz.isAgg34 (by kernel_rfl)) (by rfl) ?_; simp only [putS]; go_big_quiet_on) | (refine quiet_loadAny (t := 3) rfl _ _ _ rfl (fun w hw => run_load_int (rci_int (ov_rce rc w hw) hq1)) (by first | rfl | omega) ?_; simp only [putS]; go_big_quiet_on) | (go_big_quiet_op; go_big_quiet_on)))
     refine wpQuiet_nil ?_
     refine wpRL_callB (by rfl) (by first | rfl | simp [Region.wanted, yielded]) ?_ ?_
     ·intro wn hbn hE Kx hKx
      have hsz := B.size
      have hzn := hbn.size
      replace B := B.trans (hbn.mono B.size)
      (try replace r2 := r2.below hbn)
      (try replace r3 := r3.below hbn)
      (try replace rc := rc.below hbn)
      (try replace rs1 := rs1.below hbn)
      refine wp_callF rfl (enters_of Tryz.func24 (by kernel_rfl) rfl) (by simp only [Act.eval, evlS]; rfl) ?_
      refine (R15_restO y 256 A (by omega) HA.out _).mono ?_
      rintro e wm ⟨rfl, hbm⟩
      refine ⟨_, rfl, ?_⟩
      have hz := hKx () wm trivial hbm
      dsimp only [detS] at hz
      exact hz
     rintro ⟨⟩
     dsimp only [detS]
     simp only [putS]
     refine wpRL_chunk 2 (by kernel_rfl) ?_
     simp only [takS, Nat.reduceAdd]
     repeat (first | go_big_quiet_skip | (go_big_quiet_want; go_big_quiet_op; go_big_quiet_on))
     refine wpQuiet_nil ?_
     refine wpRL_callB (by rfl) (by first | rfl | simp [Region.wanted, yielded]) ?_ ?_
     ·intro wn hbn hE Kx hKx
      have hsz := B.size
      have hzn := hbn.size
      replace B := B.trans (hbn.mono B.size)
      (try replace r2 := r2.below hbn)
      (try replace r3 := r3.below hbn)
      (try replace rc := rc.below hbn)
      (try replace rs1 := rs1.below hbn)
      refine wp_callF rfl (enters_of Tryz.func35 (by kernel_rfl) rfl) (by simp only [Act.eval, evlS]; rfl) ?_
      refine (R_SetL _ M (X - 4 + (j : Int)) (Y - 4) A wn rs1 HMP.out.t (len_maxLen (by have := HMP.out.len; omega)) wx1 wy1 bA M' HM'.out).mono ?_
      rintro e wm ⟨v', rfl, hr, hbm⟩
      obtain ⟨a', c', rfl, _⟩ := hr.len
      exact ⟨_, rfl, hKx (a', c') wm hr hbm⟩
     rintro ⟨a57, c57⟩
     dsimp only [detS, gotS]
     simp only [putS]
     refine wpRL_callB (by rfl) (by first | rfl | simp [Region.wanted, yielded]) ?_ ?_
     ·intro wn hbn hE Kx hKx
      have hsz := B.size
      have hzn := hbn.size
      replace B := B.trans (hbn.mono B.size)
      (try replace r2 := r2.below hbn)
      (try replace r3 := r3.below hbn)
      (try replace rc := rc.below hbn)
      (try replace rs1 := rs1.below hbn)
      refine owp_allocBk (t := 63) _ (run_alloc_G _ _ rfl) ?_
      intro b wm h1 h2 ht hbm hzm
      exact hKx b wm ⟨Nat.le_trans hbn.size h1, ht⟩ (hbm.mono h1)
     rintro b_g8
     dsimp only [detS, ptrS]
     simp only [putS]
     refine wpRL_nil ?_
     intro wn hbn hE
     have hsz := B.size
     have hzn := hbn.size
     replace B := B.trans (hbn.mono B.size)
     (try replace r2 := r2.below hbn)
     (try replace r3 := r3.below hbn)
     (try replace rc := rc.below hbn)
     (try replace rs1 := rs1.below hbn)
     have rs2 := hE 13
     change RS _ _ _ at rs2
     obtain ⟨hge_g8, g8⟩ : _ ∧ AtB _ _ _ _ := hE 14
     clear hE
     try simp only [List.drop_succ_cons, List.drop_zero]
     go_wp2_with (first | (refine wpList_storeB (t := 63) rfl _ _ rfl _ rfl _ rfl g8 (by kernel_rfl) rfl (by simp [Value.oneCell']) ?_; have g8o := g8; clear g8; intro wn ht hcn hzn; (try replace rs1 := rs1.chg g8o (by simp [rcA]) hcn); (try replace rs2 := rs2.chg g8o (by simp [rcA]) hcn); have hsz := B.size; replace hzn := Nat.le_of_eq hzn.symm; replace B := Chg.below B hcn (by omega) B.size; (try replace r2 := r2.of_eq (hcn.block _ r2.lt (by omega))); (try replace r3 := r3.of_eq (hcn.block _ r3.lt (by omega))); (try replace rc := rc.of_eq (hcn.block _ rc.lt (by omega))); (try replace rs1 := rs1.of_eq (hcn.block _ rs1.lt (by omega))); have g8 := ht; clear ht; simp only [putS]) | fail)
     refine NoPan.normal ?_
     go_upto_region 11 with fail
     refine wp_region_lit ?_
     try simp only [gelS]
     refine wpList_chunk 2 (by kernel_rfl) ?_
     simp only [takS, Nat.reduceAdd]
     repeat (first | go_big_quiet_skip | (go_big_quiet_want; first | (refine quiet_loadAny (t := 34) rfl _ _ _ rfl (fun w hw => run_load_ras ((ov_B g8 w hw).cell 0 rfl)) (by first | rfl | omega) ?_; simp only [putS]; go_big_quiet_on) | (go_big_quiet_op; go_big_quiet_on)))
     refine wpQuiet_nil ?_
     (refine wpList_storeB (t := 34) rfl _ _ rfl _ rfl _ rfl r3 (by kernel_rfl) rfl (by simp [Value.oneCell']) ?_; have r3o := r3; clear r3; intro wn ht hcn hzn; (try replace rs1 := rs1.chg r3o (by simp [rcA]) hcn); (try replace rs2 := rs2.chg r3o (by simp [rcA]) hcn); have hsz := B.size; replace hzn := Nat.le_of_eq hzn.symm; replace B := Chg.below B hcn (by omega) B.size; (try replace r2 := r2.of_eq (hcn.block _ r2.lt (by omega))); (try replace rc := rc.of_eq (hcn.block _ rc.lt (by omega))); (try replace rs1 := rs1.of_eq (hcn.block _ rs1.lt (by omega))); have r3 := ht; clear ht; simp only [putS])
     refine wpList_nil ?_
     go_upto_region 9 with fail
     refine wp_region_lit ?_
     try simp only [gelS]
     refine wpList_chunk 3 (by kernel_rfl) ?_
     simp only [takS, Nat.reduceAdd]
     repeat (first | go_big_quiet_skip | (go_big_quiet_want; go_big_quiet_op; go_big_quiet_on))
     refine wpQuiet_nil ?_
     refine wpList_nil ?_
     go_wp2
     go_roundw
     case rel => exact ⟨j + 1, M', _, _, by omega, by go_num, Lib.hid (HE.out.symm.trans HM'.out), B, r2, r3, rs2⟩
     case measure => simp [intOf]; omega
    ·have q3 : decide ((j : Int) < 1 + Z) = false := decide_eq_false hjz
     go_upto_region 8 with fail
     refine wp_region_lit ?_
     try simp only [gelS]
     refine wpList_chunk 6 (by kernel_rfl) ?_
     simp only [takS, Nat.reduceAdd]
     repeat (first | go_big_quiet_skip | (go_big_quiet_want; first | (refine quiet_loadAny (t := 3) rfl _ _ _ rfl (fun w hw => run_load_int (rci_int (ov_rce rc w hw) hq0)) (by first | rfl | omega) ?_; simp only [putS]; go_big_quiet_on) | (go_big_quiet_op; go_big_quiet_on)))
     refine wpQuiet_nil ?_
     refine wpList_callF (by first | rfl | simp [Region.wanted, yielded]) rfl (enters_of Tryz.func24 (by kernel_rfl) rfl) (by simp only [Act.eval, evlS]; rfl) ?_
     refine (R15_restO D2 3 Z (by omega) HD2.out _).mono ?_
     rintro e wn ⟨rfl, hbn⟩
     have hsz := B.size
     have hzn := hbn.size
     replace B := B.trans (hbn.mono B.size)
     (try replace r2 := r2.below hbn)
     (try replace r3 := r3.below hbn)
     (try replace rs1 := rs1.below hbn)
     refine ⟨_, rfl, ?_⟩
     simp only [putS]
     refine wpList_chunk 2 (by kernel_rfl) ?_
     simp only [takS, Nat.reduceAdd]
     repeat (first | go_big_quiet_skip | (go_big_quiet_want; go_big_quiet_op; go_big_quiet_on))
     refine wpQuiet_nil ?_
     refine wpList_nil ?_
     have HEN := Lib.hid (show mkN x = j from by have := HN.out; omega)
     go_upto_region 4 with fail
     refine wp_region_lit ?_
     try simp only [gelS]
     refine wpList_chunk 3 (by kernel_rfl) ?_
     simp only [takS, Nat.reduceAdd]
     repeat (first | go_big_quiet_skip | (go_big_quiet_want; go_big_quiet_op; go_big_quiet_on))
     refine wpQuiet_nil ?_
     refine wpList_nil ?_
     go_wp2
     go_roundw
     case rel => exact ⟨k + 1, M, _, _, by omega, by go_num, Lib.hid (by rw [HST.out, HEN.out]; exact HM.out), B, r2, r3, rs1⟩
     case measure => simp [intOf]; omega
  ·obtain rfl : k = maskN q := by omega
   have HE := Lib.hid (show maskG q = L from HL.out)
   have fin : 2 * maskN q + 1 < q.length → ¬ 2 * maskN q < 60 := fun h1 => by have := HPD.out; omega
   have FIN := Lib.hid fin
   clear fin
   by_cases h1 : 2 * maskN q + 1 < q.length
   ·have q1 : decide (2 * (maskN q : Int) + 1 < (q.length : Int)) = true := decide_eq_true (by omega)
    have q2 : decide (2 * (maskN q : Int) < 60) = false := decide_eq_false (by have := FIN.out h1; omega)
    go_upto_region 3 with fail
    refine wp_region_lit ?_
    try simp only [gelS]
    refine wpList_chunk 3 (by kernel_rfl) ?_
    simp only [takS, Nat.reduceAdd]
    repeat (first | go_big_quiet_skip | (go_big_quiet_want; go_big_quiet_op; go_big_quiet_on))
    refine wpQuiet_nil ?_
    refine wpList_lenS (by first | rfl | simp [Region.wanted, yielded]) rfl Tryz.underlying23 rfl ?_
    simp only [putS]
    refine wpList_chunk 5 (by kernel_rfl) ?_
    simp only [takS, Nat.reduceAdd]
    repeat (first | go_big_quiet_skip | (go_big_quiet_want; go_big_quiet_op; go_big_quiet_on))
    refine wpQuiet_nil ?_
    refine wpList_nil ?_
    go_upto_region 12 with fail
    refine wp_region_lit ?_
    try simp only [gelS]
    refine wpList_chunk 1 (by kernel_rfl) ?_
    simp only [takS, Nat.reduceAdd]
    repeat (first | go_big_quiet_skip | (go_big_quiet_want; first | (refine quiet_loadAny (t := 34) rfl _ _ _ rfl (fun w hw => run_load_B (ov_B r3 w hw) Tryz.isAgg34 (by kernel_rfl)) (by rfl) ?_; simp only [putS]; go_big_quiet_on) | (go_big_quiet_op; go_big_quiet_on)))
    refine wpQuiet_nil ?_
    (refine wpList_storeB (t := 34) rfl _ _ rfl _ rfl _ rfl r2 (by kernel_rfl) rfl (by simp [Value.oneCell']) ?_; have r2o := r2; clear r2; intro wn ht hcn hzn; (try replace rs1 := rs1.chg r2o (by simp [rcA]) hcn); have hsz := B.size; replace hzn := Nat.le_of_eq hzn.symm; replace B := Chg.below B hcn (by omega) B.size; (try replace r3 := r3.of_eq (hcn.block _ r3.lt (by omega))); (try replace rs1 := rs1.of_eq (hcn.block _ rs1.lt (by omega))); have r2 := ht; clear ht; simp only [putS])
    refine wpList_nil ?_
    first | (refine bodyPost_ret (results_B (t := 34) rfl _ _ (b_r2) rfl r2 Tryz.isAgg34 (by kernel_rfl)) rfl ?_) | (go_step; refine bodyPost_ret (results_B (t := 34) rfl _ _ (b_r2) rfl r2 Tryz.isAgg34 (by kernel_rfl)) rfl ?_) | (go_step; go_step; refine bodyPost_ret (results_B (t := 34) rfl _ _ (b_r2) rfl r2 Tryz.isAgg34 (by kernel_rfl)) rfl ?_) | (go_step; go_step; go_step; refine bodyPost_ret (results_B (t := 34) rfl _ _ (b_r2) rfl r2 Tryz.isAgg34 (by kernel_rfl)) rfl ?_) | (go_step; go_step; go_step; go_step; refine bodyPost_ret (results_B (t := 34) rfl _ _ (b_r2) rfl r2 Tryz.isAgg34 (by kernel_rfl)) rfl ?_) | (go_step; go_step; go_step; go_step; go_step; refine bodyPost_ret (results_B (t := 34) rfl _ _ (b_r2) rfl r2 Tryz.isAgg34 (by kernel_rfl)) rfl ?_)
    rw [HE.out]
    exact ⟨_, _, rfl, rs1, B⟩
   ·have q1 : decide (2 * (maskN q : Int) + 1 < (q.length : Int)) = false := decide_eq_false (by omega)
    go_upto_region 3 with fail
    refine wp_region_lit ?_
    try simp only [gelS]
    refine wpList_chunk 3 (by kernel_rfl) ?_
    simp only [takS, Nat.reduceAdd]
    repeat (first | go_big_quiet_skip | (go_big_quiet_want; go_big_quiet_op; go_big_quiet_on))
    refine wpQuiet_nil ?_
    refine wpList_lenS (by first | rfl | simp [Region.wanted, yielded]) rfl Tryz.underlying23 rfl ?_
    simp only [putS]
    refine wpList_chunk 5 (by kernel_rfl) ?_
    simp only [takS, Nat.reduceAdd]
    repeat (first | go_big_quiet_skip | (go_big_quiet_want; go_big_quiet_op; go_big_quiet_on))
    refine wpQuiet_nil ?_
    refine wpList_nil ?_
    go_upto_region 12 with fail
    refine wp_region_lit ?_
    try simp only [gelS]
    refine wpList_chunk 1 (by kernel_rfl) ?_
    simp only [takS, Nat.reduceAdd]
    repeat (first | go_big_quiet_skip | (go_big_quiet_want; first | (refine quiet_loadAny (t := 34) rfl _ _ _ rfl (fun w hw => run_load_B (ov_B r3 w hw) Tryz.isAgg34 (by kernel_rfl)) (by rfl) ?_; simp only [putS]; go_big_quiet_on) | (go_big_quiet_op; go_big_quiet_on)))
    refine wpQuiet_nil ?_
    (refine wpList_storeB (t := 34) rfl _ _ rfl _ rfl _ rfl r2 (by kernel_rfl) rfl (by simp [Value.oneCell']) ?_; have r2o := r2; clear r2; intro wn ht hcn hzn; (try replace rs1 := rs1.chg r2o (by simp [rcA]) hcn); have hsz := B.size; replace hzn := Nat.le_of_eq hzn.symm; replace B := Chg.below B hcn (by omega) B.size; (try replace rs1 := rs1.of_eq (hcn.block _ rs1.lt (by omega))); have r2 := ht; clear ht; simp only [putS])
    refine wpList_nil ?_
    first | (refine bodyPost_ret (results_B (t := 34) rfl _ _ (b_r2) rfl r2 Tryz.isAgg34 (by kernel_rfl)) rfl ?_) | (go_step; refine bodyPost_ret (results_B (t := 34) rfl _ _ (b_r2) rfl r2 Tryz.isAgg34 (by kernel_rfl)) rfl ?_) | (go_step; go_step; refine bodyPost_ret (results_B (t := 34) rfl _ _ (b_r2) rfl r2 Tryz.isAgg34 (by kernel_rfl)) rfl ?_) | (go_step; go_step; go_step; refine bodyPost_ret (results_B (t := 34) rfl _ _ (b_r2) rfl r2 Tryz.isAgg34 (by kernel_rfl)) rfl ?_) | (go_step; go_step; go_step; go_step; refine bodyPost_ret (results_B (t := 34) rfl _ _ (b_r2) rfl r2 Tryz.isAgg34 (by kernel_rfl)) rfl ?_) | (go_step; go_step; go_step; go_step; go_step; refine bodyPost_ret (results_B (t := 34) rfl _ _ (b_r2) rfl r2 Tryz.isAgg34 (by kernel_rfl)) rfl ?_)
    rw [HE.out]
    exact ⟨_, _, rfl, rs1, B⟩
/- For chapter 15's laws: contracts told with their values, slices cut short, '==' of rectangles, lists of polygons as values. -/
/-- v is a slice of ls that lies in the blocks below n. -/
def RSN {α : Type} {k : Nat} {T ST : TypeId} (E : Elt α k T ST) (n : Nat) (v : Value) (ls : List α) (w : World) : Prop := n ≤ w.heap.size ∧ ∀ w', Below n w w' → RSE E v ls w'
section
variable {α : Type} {k : Nat} {T ST : TypeId} {E : Elt α k T ST} {n b : Nat} {v : Value} {ls : List α} {w w' : World}
theorem RSN.mk (h : RSE E v ls w) : RSN E w.heap.size v ls w := ⟨Nat.le_refl _, fun w' hb => h.below hb⟩
theorem RSN.rs (h : RSN E n v ls w) : RSE E v ls w := h.2 w (Below.refl _ _)
theorem RSN.below (h : RSN E n v ls w) (hb : Below w.heap.size w w') : RSN E n v ls w' := ⟨Nat.le_trans h.1 hb.size, fun w'' h2 => h.2 w'' ((hb.mono h.1).trans h2)⟩
theorem RSN.chg (h : RSN E n v ls w) (hc : Chg b w w') (hb : n ≤ b) : RSN E n v ls w' := ⟨Nat.le_trans h.1 hc.size, fun w'' h2 => h.2 w'' ((Chg.below (Below.refl n w) hc hb h.1).trans h2)⟩
end
def polyS (P : List (List Pnt)) : NSpec := ⟨Option Addr × Nat, ⟨(none, 0)⟩, fun x => .slice x.1 P.length x.2, fun x w => RPoly (.slice x.1 P.length x.2) P w, fun _ _ _ hb h => h.below hb⟩
theorem RPoly.nil (w : World) : RPoly (.slice none 0 0) [] w := ⟨[], RSE.nil w, rfl, fun i s l h => by simp at h⟩
/- For the laws of chapter 15 that invert or fill: what both ways of inverting return; '==' of rasters, cropping. -/
theorem valid_len {ls : List TA} (h : validL ls = true) : ls.length ≤ maxLen := by
 have := (validL_iff.1 h).1
 unfold maxLen
 omega
theorem P_EqualT (v u : Value) (ls ks : List TA) (w : World) (h : RS v ls w) (h' : RS u ks w) (tk : TokL ls) (tk' : TokL ks) (hn : ls.length ≤ maxLen) (hn' : ks.length ≤ maxLen) (e : eqL (fineL ls) (fineL ks) = true) : Calls Tryz.prog 19 #[.agg #[v], .agg #[u]] w fun e w' => e = .returned (.bool true) ∧ Below w.heap.size w w' := e ▸ P_Equal v u ls ks w h h' tk tk' hn hn'
/- Union, Common, Minus: contracts. -/
set_option maxHeartbeats 2000000 in
theorem P_UnionV (va vb : Value) (la lb X : List TA) (w : World) (ra : RS va la w) (rb : RS vb lb w) (ta : TokL la) (tb : TokL lb) (hva : validL la = true) (hvb : validL lb = true) (hX : combL uOp la lb = X) : Calls Tryz.prog 13 #[.agg #[va], .agg #[vb]] w fun e w' => ∃ v', e = .returned (.agg #[v']) ∧ RS v' X w' ∧ Below w.heap.size w w' := by
 have B := Below.refl w.heap.size w
 obtain ⟨aa, ca, rfl, hca⟩ := ra.len
 obtain ⟨ab, cb, rfl, hcb⟩ := rb.len
 have HA := Lib.hid ra
 have HB := Lib.hid rb
 have HC := Lib.hid (show ∀ W, RS (.slice aa la.length ca) la W → RS (.slice ab lb.length cb) lb W → Calls Tryz.prog 41 #[.agg #[.slice aa la.length ca], .agg #[.slice ab lb.length cb], .func (.func 42) #[] #[]] W fun e w' => ∃ a c, e = .returned (.agg #[.slice a X.length c]) ∧ RS (.slice a X.length c) X w' ∧ Below W.heap.size W w' from fun W h1 h2 => hX ▸ P_combined uOp uOp_z 42 (enters_of Tryz.func42 (by kernel_rfl) rfl) (fun x y W h1 h2 => P_Uclo x y W h1 h2) _ _ la lb W h1 h2 ta tb hva hvb)
 clear ra rb ta tb hva hvb hX
 go_enter Tryz.func13, Tryz.ntmps13
 go_upto_region 0 with fail
 refine wp_region_lit ?_
 try simp only [gelS]
 (refine wpList_boxB (t := 34) rfl _ rfl _ rfl ?_; intro b_b0 wn hle hge ht hbn hzn; have hsz := B.size; replace B := B.trans (hbn.mono (by omega)); have hln := Nat.lt_of_lt_of_eq (Nat.lt_succ_self _) hzn.symm; clear hzn; have b0 := ht; clear ht; simp only [putS])
 (refine wpList_boxB (t := 34) rfl _ rfl _ rfl ?_; intro b_b1 wn hle hge ht hbn hzn; have hsz := B.size; replace B := B.trans (hbn.mono (by omega)); have hln := Nat.lt_of_lt_of_eq (Nat.lt_succ_self _) hzn.symm; clear hzn; (try have hlt := b0.lt); (try replace b0 := b0.below (hbn.mono hle)); have b1 := ht; clear ht; simp only [putS])
 (refine wpList_allocBk (t := 34) rfl _ (run_alloc_R _ _ rfl) ?_; intro b_r4 wn hle hge ht hbn hzn; have hsz := B.size; replace B := B.trans (hbn.mono (by omega)); have hln := Nat.lt_of_lt_of_eq (Nat.lt_succ_self _) hzn.symm; clear hzn; (try have hlt := b0.lt); (try replace b0 := b0.below (hbn.mono hle)); (try have hlt := b1.lt); (try replace b1 := b1.below (hbn.mono hle)); have r4 := ht; clear ht; simp only [putS])
 refine wpList_nil ?_
 go_upto_region 1 with fail
 refine wp_region_lit ?_
 try simp only [gelS]
 refine wpList_chunk 2 (by kernel_rfl) ?_
 simp only [takS, Nat.reduceAdd]
 repeat (first | go_big_quiet_skip | (go_big_quiet_want; first | (refine quiet_loadAny (t := 34) rfl _ _ _ rfl (fun w hw => run_load_B (ov_B b0 w hw) Tryz.isAgg34 (by kernel_rfl)) (by rfl) ?_; simp only [putS]; go_big_quiet_on) | (refine quiet_loadAny (t := 34) rfl _ _ _ rfl (fun w hw => run_load_B (ov_B b1 w hw) Tryz.isAgg34 (by kernel_rfl)) (by rfl) ?_; simp only [putS]; go_big_quiet_on) | (go_big_quiet_op; go_big_quiet_on)))
 refine wpQuiet_nil ?_
 refine wpList_callF (by first | rfl | simp [Region.wanted, yielded]) rfl (enters_of Tryz.func41 (by kernel_rfl) rfl) (by simp only [Act.eval, evlS]; rfl) ?_
 refine (HC.out _ (HA.out.below B) (HB.out.below B)).mono ?_
 rintro e wn ⟨a1, c1, rfl, rs1, hbn⟩
 have hsz := B.size
 have hzn := hbn.size
 replace B := B.trans (hbn.mono B.size)
 (try replace r4 := r4.below hbn)
 refine ⟨_, rfl, ?_⟩
 simp only [putS]
 (refine wpList_storeB (t := 34) rfl _ _ rfl _ rfl _ rfl r4 (by kernel_rfl) rfl (by simp [Value.oneCell']) ?_; have r4o := r4; clear r4; intro wn ht hcn hzn; (try replace rs1 := rs1.chg r4o (by simp [rcA]) hcn); have hsz := B.size; replace hzn := Nat.le_of_eq hzn.symm; replace B := Chg.below B hcn (by omega) B.size; have r4 := ht; clear ht; simp only [putS])
 refine wpList_nil ?_
 first | (refine bodyPost_ret (results_B (t := 34) rfl _ _ (b_r4) rfl r4 Tryz.isAgg34 (by kernel_rfl)) rfl ?_) | (go_step; refine bodyPost_ret (results_B (t := 34) rfl _ _ (b_r4) rfl r4 Tryz.isAgg34 (by kernel_rfl)) rfl ?_) | (go_step; go_step; refine bodyPost_ret (results_B (t := 34) rfl _ _ (b_r4) rfl r4 Tryz.isAgg34 (by kernel_rfl)) rfl ?_) | (go_step; go_step; go_step; refine bodyPost_ret (results_B (t := 34) rfl _ _ (b_r4) rfl r4 Tryz.isAgg34 (by kernel_rfl)) rfl ?_) | (go_step; go_step; go_step; go_step; refine bodyPost_ret (results_B (t := 34) rfl _ _ (b_r4) rfl r4 Tryz.isAgg34 (by kernel_rfl)) rfl ?_) | (go_step; go_step; go_step; go_step; go_step; refine bodyPost_ret (results_B (t := 34) rfl _ _ (b_r4) rfl r4 Tryz.isAgg34 (by kernel_rfl)) rfl ?_)
 exact ⟨_, rfl, rs1, B⟩
set_option maxHeartbeats 2000000 in
theorem P_CommonV (va vb : Value) (la lb X : List TA) (w : World) (ra : RS va la w) (rb : RS vb lb w) (ta : TokL la) (tb : TokL lb) (hva : validL la = true) (hvb : validL lb = true) (hX : combL cOp la lb = X) : Calls Tryz.prog 15 #[.agg #[va], .agg #[vb]] w fun e w' => ∃ v', e = .returned (.agg #[v']) ∧ RS v' X w' ∧ Below w.heap.size w w' := by
 have B := Below.refl w.heap.size w
 obtain ⟨aa, ca, rfl, hca⟩ := ra.len
 obtain ⟨ab, cb, rfl, hcb⟩ := rb.len
 have HA := Lib.hid ra
 have HB := Lib.hid rb
 have HC := Lib.hid (show ∀ W, RS (.slice aa la.length ca) la W → RS (.slice ab lb.length cb) lb W → Calls Tryz.prog 41 #[.agg #[.slice aa la.length ca], .agg #[.slice ab lb.length cb], .func (.func 45) #[] #[]] W fun e w' => ∃ a c, e = .returned (.agg #[.slice a X.length c]) ∧ RS (.slice a X.length c) X w' ∧ Below W.heap.size W w' from fun W h1 h2 => hX ▸ P_combined cOp cOp_z 45 (enters_of Tryz.func45 (by kernel_rfl) rfl) (fun x y W h1 h2 => P_Cclo x y W h1 h2) _ _ la lb W h1 h2 ta tb hva hvb)
 clear ra rb ta tb hva hvb hX
 go_enter Tryz.func15, Tryz.ntmps15
 go_upto_region 0 with fail
 refine wp_region_lit ?_
 try simp only [gelS]
 (refine wpList_boxB (t := 34) rfl _ rfl _ rfl ?_; intro b_b0 wn hle hge ht hbn hzn; have hsz := B.size; replace B := B.trans (hbn.mono (by omega)); have hln := Nat.lt_of_lt_of_eq (Nat.lt_succ_self _) hzn.symm; clear hzn; have b0 := ht; clear ht; simp only [putS])
 (refine wpList_boxB (t := 34) rfl _ rfl _ rfl ?_; intro b_b1 wn hle hge ht hbn hzn; have hsz := B.size; replace B := B.trans (hbn.mono (by omega)); have hln := Nat.lt_of_lt_of_eq (Nat.lt_succ_self _) hzn.symm; clear hzn; (try have hlt := b0.lt); (try replace b0 := b0.below (hbn.mono hle)); have b1 := ht; clear ht; simp only [putS])
 (refine wpList_allocBk (t := 34) rfl _ (run_alloc_R _ _ rfl) ?_; intro b_r4 wn hle hge ht hbn hzn; have hsz := B.size; replace B := B.trans (hbn.mono (by omega)); have hln := Nat.lt_of_lt_of_eq (Nat.lt_succ_self _) hzn.symm; clear hzn; (try have hlt := b0.lt); (try replace b0 := b0.below (hbn.mono hle)); (try have hlt := b1.lt); (try replace b1 := b1.below (hbn.mono hle)); have r4 := ht; clear ht; simp only [putS])
 refine wpList_nil ?_
 go_upto_region 1 with fail
 refine wp_region_lit ?_
 try simp only [gelS]
 refine wpList_chunk 2 (by kernel_rfl) ?_
 simp only [takS, Nat.reduceAdd]
 repeat (first | go_big_quiet_skip | (go_big_quiet_want; first | (refine quiet_loadAny (t := 34) rfl _ _ _ rfl (fun w hw => run_load_B (ov_B b0 w hw) Tryz.isAgg34 (by kernel_rfl)) (by rfl) ?_; simp only [putS]; go_big_quiet_on) | (refine quiet_loadAny (t := 34) rfl _ _ _ rfl (fun w hw => run_load_B (ov_B b1 w hw) Tryz.isAgg34 (by kernel_rfl)) (by rfl) ?_; simp only [putS]; go_big_quiet_on) | (go_big_quiet_op; go_big_quiet_on)))
 refine wpQuiet_nil ?_
 refine wpList_callF (by first | rfl | simp [Region.wanted, yielded]) rfl (enters_of Tryz.func41 (by kernel_rfl) rfl) (by simp only [Act.eval, evlS]; rfl) ?_
 refine (HC.out _ (HA.out.below B) (HB.out.below B)).mono ?_
 rintro e wn ⟨a1, c1, rfl, rs1, hbn⟩
 have hsz := B.size
 have hzn := hbn.size
 replace B := B.trans (hbn.mono B.size)
 (try replace r4 := r4.below hbn)
 refine ⟨_, rfl, ?_⟩
 simp only [putS]
 (refine wpList_storeB (t := 34) rfl _ _ rfl _ rfl _ rfl r4 (by kernel_rfl) rfl (by simp [Value.oneCell']) ?_; have r4o := r4; clear r4; intro wn ht hcn hzn; (try replace rs1 := rs1.chg r4o (by simp [rcA]) hcn); have hsz := B.size; replace hzn := Nat.le_of_eq hzn.symm; replace B := Chg.below B hcn (by omega) B.size; have r4 := ht; clear ht; simp only [putS])
 refine wpList_nil ?_
 first | (refine bodyPost_ret (results_B (t := 34) rfl _ _ (b_r4) rfl r4 Tryz.isAgg34 (by kernel_rfl)) rfl ?_) | (go_step; refine bodyPost_ret (results_B (t := 34) rfl _ _ (b_r4) rfl r4 Tryz.isAgg34 (by kernel_rfl)) rfl ?_) | (go_step; go_step; refine bodyPost_ret (results_B (t := 34) rfl _ _ (b_r4) rfl r4 Tryz.isAgg34 (by kernel_rfl)) rfl ?_) | (go_step; go_step; go_step; refine bodyPost_ret (results_B (t := 34) rfl _ _ (b_r4) rfl r4 Tryz.isAgg34 (by kernel_rfl)) rfl ?_) | (go_step; go_step; go_step; go_step; refine bodyPost_ret (results_B (t := 34) rfl _ _ (b_r4) rfl r4 Tryz.isAgg34 (by kernel_rfl)) rfl ?_) | (go_step; go_step; go_step; go_step; go_step; refine bodyPost_ret (results_B (t := 34) rfl _ _ (b_r4) rfl r4 Tryz.isAgg34 (by kernel_rfl)) rfl ?_)
 exact ⟨_, rfl, rs1, B⟩
set_option maxHeartbeats 2000000 in
theorem P_MinusV (va vb : Value) (la lb X : List TA) (w : World) (ra : RS va la w) (rb : RS vb lb w) (ta : TokL la) (tb : TokL lb) (hva : validL la = true) (hvb : validL lb = true) (hX : combL mOp la lb = X) : Calls Tryz.prog 16 #[.agg #[va], .agg #[vb]] w fun e w' => ∃ v', e = .returned (.agg #[v']) ∧ RS v' X w' ∧ Below w.heap.size w w' := by
 have B := Below.refl w.heap.size w
 obtain ⟨aa, ca, rfl, hca⟩ := ra.len
 obtain ⟨ab, cb, rfl, hcb⟩ := rb.len
 have HA := Lib.hid ra
 have HB := Lib.hid rb
 have HC := Lib.hid (show ∀ W, RS (.slice aa la.length ca) la W → RS (.slice ab lb.length cb) lb W → Calls Tryz.prog 41 #[.agg #[.slice aa la.length ca], .agg #[.slice ab lb.length cb], .func (.func 46) #[] #[]] W fun e w' => ∃ a c, e = .returned (.agg #[.slice a X.length c]) ∧ RS (.slice a X.length c) X w' ∧ Below W.heap.size W w' from fun W h1 h2 => hX ▸ P_combined mOp mOp_z 46 (enters_of Tryz.func46 (by kernel_rfl) rfl) (fun x y W h1 h2 => P_Mclo x y W h1 h2) _ _ la lb W h1 h2 ta tb hva hvb)
 clear ra rb ta tb hva hvb hX
 go_enter Tryz.func16, Tryz.ntmps16
 go_upto_region 0 with fail
 refine wp_region_lit ?_
 try simp only [gelS]
 (refine wpList_boxB (t := 34) rfl _ rfl _ rfl ?_; intro b_b0 wn hle hge ht hbn hzn; have hsz := B.size; replace B := B.trans (hbn.mono (by omega)); have hln := Nat.lt_of_lt_of_eq (Nat.lt_succ_self _) hzn.symm; clear hzn; have b0 := ht; clear ht; simp only [putS])
 (refine wpList_boxB (t := 34) rfl _ rfl _ rfl ?_; intro b_b1 wn hle hge ht hbn hzn; have hsz := B.size; replace B := B.trans (hbn.mono (by omega)); have hln := Nat.lt_of_lt_of_eq (Nat.lt_succ_self _) hzn.symm; clear hzn; (try have hlt := b0.lt); (try replace b0 := b0.below (hbn.mono hle)); have b1 := ht; clear ht; simp only [putS])
 (refine wpList_allocBk (t := 34) rfl _ (run_alloc_R _ _ rfl) ?_; intro b_r4 wn hle hge ht hbn hzn; have hsz := B.size; replace B := B.trans (hbn.mono (by omega)); have hln := Nat.lt_of_lt_of_eq (Nat.lt_succ_self _) hzn.symm; clear hzn; (try have hlt := b0.lt); (try replace b0 := b0.below (hbn.mono hle)); (try have hlt := b1.lt); (try replace b1 := b1.below (hbn.mono hle)); have r4 := ht; clear ht; simp only [putS])
 refine wpList_nil ?_
 go_upto_region 1 with fail
 refine wp_region_lit ?_
 try simp only [gelS]
 refine wpList_chunk 2 (by kernel_rfl) ?_
 simp only [takS, Nat.reduceAdd]
 repeat (first | go_big_quiet_skip | (go_big_quiet_want; first | (refine quiet_loadAny (t := 34) rfl _ _ _ rfl (fun w hw => run_load_B (ov_B b0 w hw) Tryz.isAgg34 (by kernel_rfl)) (by rfl) ?_; simp only [putS]; go_big_quiet_on) | (refine quiet_loadAny (t := 34) rfl _ _ _ rfl (fun w hw => run_load_B (ov_B b1 w hw) Tryz.isAgg34 (by kernel_rfl)) (by rfl) ?_; simp only [putS]; go_big_quiet_on) | (go_big_quiet_op; go_big_quiet_on)))
 refine wpQuiet_nil ?_
 refine wpList_callF (by first | rfl | simp [Region.wanted, yielded]) rfl (enters_of Tryz.func41 (by kernel_rfl) rfl) (by simp only [Act.eval, evlS]; rfl) ?_
 refine (HC.out _ (HA.out.below B) (HB.out.below B)).mono ?_
 rintro e wn ⟨a1, c1, rfl, rs1, hbn⟩
 have hsz := B.size
 have hzn := hbn.size
 replace B := B.trans (hbn.mono B.size)
 (try replace r4 := r4.below hbn)
 refine ⟨_, rfl, ?_⟩
 simp only [putS]
 (refine wpList_storeB (t := 34) rfl _ _ rfl _ rfl _ rfl r4 (by kernel_rfl) rfl (by simp [Value.oneCell']) ?_; have r4o := r4; clear r4; intro wn ht hcn hzn; (try replace rs1 := rs1.chg r4o (by simp [rcA]) hcn); have hsz := B.size; replace hzn := Nat.le_of_eq hzn.symm; replace B := Chg.below B hcn (by omega) B.size; have r4 := ht; clear ht; simp only [putS])
 refine wpList_nil ?_
 first | (refine bodyPost_ret (results_B (t := 34) rfl _ _ (b_r4) rfl r4 Tryz.isAgg34 (by kernel_rfl)) rfl ?_) | (go_step; refine bodyPost_ret (results_B (t := 34) rfl _ _ (b_r4) rfl r4 Tryz.isAgg34 (by kernel_rfl)) rfl ?_) | (go_step; go_step; refine bodyPost_ret (results_B (t := 34) rfl _ _ (b_r4) rfl r4 Tryz.isAgg34 (by kernel_rfl)) rfl ?_) | (go_step; go_step; go_step; refine bodyPost_ret (results_B (t := 34) rfl _ _ (b_r4) rfl r4 Tryz.isAgg34 (by kernel_rfl)) rfl ?_) | (go_step; go_step; go_step; go_step; refine bodyPost_ret (results_B (t := 34) rfl _ _ (b_r4) rfl r4 Tryz.isAgg34 (by kernel_rfl)) rfl ?_) | (go_step; go_step; go_step; go_step; go_step; refine bodyPost_ret (results_B (t := 34) rfl _ _ (b_r4) rfl r4 Tryz.isAgg34 (by kernel_rfl)) rfl ?_)
 exact ⟨_, rfl, rs1, B⟩
end Go.Proofs.YtamgpfblhlfhaaaGreat
namespace Go.Proofs.YtamgpfblhlfhaaaGreat
open Go.RowKit Go.Shelf Pl
open Go.ChangeShapes Go.WideShapes Go.ChangeAt
set_option linter.unusedVariables false
set_option linter.unusedSimpArgs false
set_option maxRecDepth 20000
section
variable {H : Type} {enc : TypeId × Value → H} {w : World} {base : Nat} {spare : Nat → Bool} {held : Bool}
theorem open_ints3 {r : Reach} {b0 : Nat} {v : Value} {d : DataW H} {p : List MemPlace} (hv : Value.okWide Tryz.prog w r b0 49 v)
  (h : DataW.Trod enc Tryz.prog w base spare held 49 v d p) (hw : ∀ n ∈ d.weights Tryz.prog 49, n ≤ reachBytes) :
  ∃ (vL vM vN : Value) (L M N : List Int), v = .agg #[vL, vM, vN] ∧ (RSE inE vL L w ∧ L.length ≤ 17592186044416 ∧ WfL L) ∧ (RSE inE vM M w ∧ M.length ≤ 17592186044416 ∧ WfL M) ∧ (RSE inE vN N w ∧ N.length ≤ 17592186044416 ∧ WfL N) := by
 obtain ⟨cs, rfl, hsz⟩ := okWide_array Tryz.underlying49 hv
 obtain ⟨fuel, hf⟩ := h
 have hC : Tryz.prog.cellsOf 23 = 1 := by kernel_rfl
 have hC2 : Tryz.prog.cellsOf 49 = 3 := by kernel_rfl
 rw [hC2] at hsz
 obtain ⟨xs, m, _, hx0, _, hxl, hx⟩ := DataW.trod_array Tryz.underlying49 hf
 obtain ⟨l, rfl⟩ : ∃ l : List Value, cs = l.toArray := ⟨cs.toList, by simp⟩
 match l, (by simpa using hsz : l.length = 3) with
 | [c0, c1, c2], _ =>
  have h0 := hx 0 (by omega)
  have h1 := hx 1 (by omega)
  have h2 := hx 2 (by omega)
  simp only [hC, Value.cells] at h0 h1 h2
  match xs, hxl with
  | [y0, y1, y2], _ =>
   have hd : d = .agg [y0.1, y1.1, y2.1] := (Prod.mk.inj hx0).1
   have hww : ∀ n, n ∈ y0.1.weights Tryz.prog 23 ∨ n ∈ y1.1.weights Tryz.prog 23 ∨ n ∈ y2.1.weights Tryz.prog 23 → n ≤ reachBytes := fun n hn => by
    refine hw n ?_
    rw [hd]
    simp only [DataW.weights, Tryz.underlying49]
    simp only [DataW.weightsAll, List.mem_append]
    rcases hn with hn | hn | hn
    ·exact .inl hn
    ·exact .inr (.inl hn)
    ·exact .inr (.inr (.inl hn))
   obtain ⟨vL, L, eL, rL, lL, wL⟩ := trod_intsW (x := y0) (by simpa using h0) (fun n hn => hww n (.inl hn))
   obtain ⟨vM, M, eM, rM, lM, wM⟩ := trod_intsW (x := y1) (by simpa using h1) (fun n hn => hww n (.inr (.inl hn)))
   obtain ⟨vN, N, eN, rN, lN, wN⟩ := trod_intsW (x := y2) (by simpa using h2) (fun n hn => hww n (.inr (.inr hn)))
   simp at eL eM eN
   subst eL; subst eM; subst eN
   exact ⟨_, _, _, L, M, N, rfl, ⟨rL, lL, wL⟩, ⟨rM, lM, wM⟩, ⟨rN, lN, wN⟩⟩
end
set_option maxHeartbeats 16000000 in
theorem walk_SelectionLaws (va vb vc : Value) (qa qb qc : List Int) (w : World) (ha : RSE inE va qa w ∧ qa.length ≤ 17592186044416 ∧ WfL qa) (hb : RSE inE vb qb w ∧ qb.length ≤ 17592186044416 ∧ WfL qb) (hc : RSE inE vc qc w ∧ qc.length ≤ 17592186044416 ∧ WfL qc) : Calls Tryz.prog 5 #[.agg #[va, vb, vc]] w fun e w' => e = .returned (.bool true) ∧ Below w.heap.size w w' := by
 have B := Below.refl w.heap.size w
 obtain ⟨a0a, c0a, rfl, hc0a⟩ := ha.1.len
 have Ha := Lib.hid ha.1
 have HMPa := maskG_P qa
 have HMKa := Lib.hid (show ∀ W, RSE inE (.slice a0a qa.length c0a) qa W → Calls Tryz.prog 12 #[.slice a0a qa.length c0a] W fun e w' => ∃ a c, e = .returned (.agg #[.slice a (maskG qa).length c]) ∧ RS (.slice a (maskG qa).length c) (maskG qa) w' ∧ Below W.heap.size W w' from fun W h => R_Mask _ qa W h ha.2.1 ha.2.2)
 obtain ⟨LA, hMa⟩ : ∃ m, maskG qa = m := ⟨_, rfl⟩
 rw [hMa] at HMPa HMKa
 have HMLA := Lib.hid HMPa
 clear ha hMa
 obtain ⟨a0b, c0b, rfl, hc0b⟩ := hb.1.len
 have Hb := Lib.hid hb.1
 have HMPb := maskG_P qb
 have HMKb := Lib.hid (show ∀ W, RSE inE (.slice a0b qb.length c0b) qb W → Calls Tryz.prog 12 #[.slice a0b qb.length c0b] W fun e w' => ∃ a c, e = .returned (.agg #[.slice a (maskG qb).length c]) ∧ RS (.slice a (maskG qb).length c) (maskG qb) w' ∧ Below W.heap.size W w' from fun W h => R_Mask _ qb W h hb.2.1 hb.2.2)
 obtain ⟨LB, hMb⟩ : ∃ m, maskG qb = m := ⟨_, rfl⟩
 rw [hMb] at HMPb HMKb
 have HMLB := Lib.hid HMPb
 clear hb hMb
 obtain ⟨a0c, c0c, rfl, hc0c⟩ := hc.1.len
 have Hc := Lib.hid hc.1
 have HMPc := maskG_P qc
 have HMKc := Lib.hid (show ∀ W, RSE inE (.slice a0c qc.length c0c) qc W → Calls Tryz.prog 12 #[.slice a0c qc.length c0c] W fun e w' => ∃ a c, e = .returned (.agg #[.slice a (maskG qc).length c]) ∧ RS (.slice a (maskG qc).length c) (maskG qc) w' ∧ Below W.heap.size W w' from fun W h => R_Mask _ qc W h hc.2.1 hc.2.2)
 obtain ⟨LC, hMc⟩ : ∃ m, maskG qc = m := ⟨_, rfl⟩
 rw [hMc] at HMPc HMKc
 have HMLC := Lib.hid HMPc
 clear hc hMc
 have HMn := Lib.hid mask_nil
 obtain ⟨U, hU⟩ : ∃ X, combL uOp LA LB = X := ⟨_, rfl⟩
 have HXU := Lib.hid hU
 have HMU : Hid (MaskP U) := Lib.hid (hU ▸ comb_mask uOp_z HMLA.out HMLB.out)
 obtain ⟨M, hM⟩ : ∃ X, combL cOp LA LB = X := ⟨_, rfl⟩
 have HXM := Lib.hid hM
 have HMM : Hid (MaskP M) := Lib.hid (hM ▸ comb_mask cOp_z HMLA.out HMLB.out)
 obtain ⟨U2, hU2⟩ : ∃ X, combL uOp LB LA = X := ⟨_, rfl⟩
 have HXU2 := Lib.hid hU2
 have HMU2 : Hid (MaskP U2) := Lib.hid (hU2 ▸ comb_mask uOp_z HMLB.out HMLA.out)
 obtain ⟨M2, hM2⟩ : ∃ X, combL cOp LB LA = X := ⟨_, rfl⟩
 have HXM2 := Lib.hid hM2
 have HMM2 : Hid (MaskP M2) := Lib.hid (hM2 ▸ comb_mask cOp_z HMLB.out HMLA.out)
 obtain ⟨UC, hUC⟩ : ∃ X, combL uOp U LC = X := ⟨_, rfl⟩
 have HXUC := Lib.hid hUC
 have HMUC : Hid (MaskP UC) := Lib.hid (hUC ▸ comb_mask uOp_z HMU.out HMLC.out)
 obtain ⟨BC, hBC⟩ : ∃ X, combL uOp LB LC = X := ⟨_, rfl⟩
 have HXBC := Lib.hid hBC
 have HMBC : Hid (MaskP BC) := Lib.hid (hBC ▸ comb_mask uOp_z HMLB.out HMLC.out)
 obtain ⟨UA, hUA⟩ : ∃ X, combL uOp LA BC = X := ⟨_, rfl⟩
 have HXUA := Lib.hid hUA
 have HMUA : Hid (MaskP UA) := Lib.hid (hUA ▸ comb_mask uOp_z HMLA.out HMBC.out)
 obtain ⟨MC, hMC⟩ : ∃ X, combL cOp M LC = X := ⟨_, rfl⟩
 have HXMC := Lib.hid hMC
 have HMMC : Hid (MaskP MC) := Lib.hid (hMC ▸ comb_mask cOp_z HMM.out HMLC.out)
 obtain ⟨BM, hBM⟩ : ∃ X, combL cOp LB LC = X := ⟨_, rfl⟩
 have HXBM := Lib.hid hBM
 have HMBM : Hid (MaskP BM) := Lib.hid (hBM ▸ comb_mask cOp_z HMLB.out HMLC.out)
 obtain ⟨MA, hMA⟩ : ∃ X, combL cOp LA BM = X := ⟨_, rfl⟩
 have HXMA := Lib.hid hMA
 have HMMA : Hid (MaskP MA) := Lib.hid (hMA ▸ comb_mask cOp_z HMLA.out HMBM.out)
 obtain ⟨AA, hAA⟩ : ∃ X, combL uOp LA LA = X := ⟨_, rfl⟩
 have HXAA := Lib.hid hAA
 have HMAA : Hid (MaskP AA) := Lib.hid (hAA ▸ comb_mask uOp_z HMLA.out HMLA.out)
 obtain ⟨A2, hA2⟩ : ∃ X, combL cOp LA LA = X := ⟨_, rfl⟩
 have HXA2 := Lib.hid hA2
 have HMA2 : Hid (MaskP A2) := Lib.hid (hA2 ▸ comb_mask cOp_z HMLA.out HMLA.out)
 obtain ⟨AM, hAM⟩ : ∃ X, combL uOp LA M = X := ⟨_, rfl⟩
 have HXAM := Lib.hid hAM
 have HMAM : Hid (MaskP AM) := Lib.hid (hAM ▸ comb_mask uOp_z HMLA.out HMM.out)
 obtain ⟨AU, hAU⟩ : ∃ X, combL cOp LA U = X := ⟨_, rfl⟩
 have HXAU := Lib.hid hAU
 have HMAU : Hid (MaskP AU) := Lib.hid (hAU ▸ comb_mask cOp_z HMLA.out HMU.out)
 obtain ⟨AN, hAN⟩ : ∃ X, combL uOp LA [] = X := ⟨_, rfl⟩
 have HXAN := Lib.hid hAN
 have HMAN : Hid (MaskP AN) := Lib.hid (hAN ▸ comb_mask uOp_z HMLA.out HMn.out)
 obtain ⟨CN, hCN⟩ : ∃ X, combL cOp LA [] = X := ⟨_, rfl⟩
 have HXCN := Lib.hid hCN
 have HMCN : Hid (MaskP CN) := Lib.hid (hCN ▸ comb_mask cOp_z HMLA.out HMn.out)
 obtain ⟨SN, hSN⟩ : ∃ X, combL mOp LA [] = X := ⟨_, rfl⟩
 have HXSN := Lib.hid hSN
 have HMSN : Hid (MaskP SN) := Lib.hid (hSN ▸ comb_mask mOp_z HMLA.out HMn.out)
 obtain ⟨NS0, hNS0⟩ : ∃ X, combL mOp [] LA = X := ⟨_, rfl⟩
 have HXNS0 := Lib.hid hNS0
 have HMNS0 : Hid (MaskP NS0) := Lib.hid (hNS0 ▸ comb_mask mOp_z HMn.out HMLA.out)
 have L1 := laws1 HMPa
 have L2 := laws2 HMPa HMPb
 have L3 := laws3 HMPa HMPb HMPc
 have ff : ∀ {X Y : List TA}, MaskP X → MaskP Y → eqL X Y = true → eqL (fineL X) (fineL Y) = true := fun h1 h2 e => by rw [fineL_of h1.v, fineL_of h2.v]; exact e
 have E1 := Lib.hid (ff HMU.out HMU2.out (by have e := L2.1; simp only [hU, hM, hU2, hM2, hUC, hBC, hUA, hMC, hBM, hMA, hAA, hA2, hAM, hAU, hAN, hCN, hSN, hNS0] at e; exact e))
 have E2 := Lib.hid (ff HMM.out HMM2.out (by have e := L2.2.1; simp only [hU, hM, hU2, hM2, hUC, hBC, hUA, hMC, hBM, hMA, hAA, hA2, hAM, hAU, hAN, hCN, hSN, hNS0] at e; exact e))
 have E3 := Lib.hid (ff HMUC.out HMUA.out (by have e := L3.1; simp only [hU, hM, hU2, hM2, hUC, hBC, hUA, hMC, hBM, hMA, hAA, hA2, hAM, hAU, hAN, hCN, hSN, hNS0] at e; exact e))
 have E4 := Lib.hid (ff HMMC.out HMMA.out (by have e := L3.2; simp only [hU, hM, hU2, hM2, hUC, hBC, hUA, hMC, hBM, hMA, hAA, hA2, hAM, hAU, hAN, hCN, hSN, hNS0] at e; exact e))
 have E5 := Lib.hid (ff HMAA.out HMLA.out (by have e := L1.1; simp only [hU, hM, hU2, hM2, hUC, hBC, hUA, hMC, hBM, hMA, hAA, hA2, hAM, hAU, hAN, hCN, hSN, hNS0] at e; exact e))
 have E6 := Lib.hid (ff HMA2.out HMLA.out (by have e := L1.2.1; simp only [hU, hM, hU2, hM2, hUC, hBC, hUA, hMC, hBM, hMA, hAA, hA2, hAM, hAU, hAN, hCN, hSN, hNS0] at e; exact e))
 have E7 := Lib.hid (ff HMAM.out HMLA.out (by have e := L2.2.2.1; simp only [hU, hM, hU2, hM2, hUC, hBC, hUA, hMC, hBM, hMA, hAA, hA2, hAM, hAU, hAN, hCN, hSN, hNS0] at e; exact e))
 have E8 := Lib.hid (ff HMAU.out HMLA.out (by have e := L2.2.2.2; simp only [hU, hM, hU2, hM2, hUC, hBC, hUA, hMC, hBM, hMA, hAA, hA2, hAM, hAU, hAN, hCN, hSN, hNS0] at e; exact e))
 have E9 := Lib.hid (ff HMAN.out HMLA.out (by have e := L1.2.2.1; simp only [hU, hM, hU2, hM2, hUC, hBC, hUA, hMC, hBM, hMA, hAA, hA2, hAM, hAU, hAN, hCN, hSN, hNS0] at e; exact e))
 have E10 := Lib.hid (ff HMCN.out HMn.out (by have e := L1.2.2.2.1; simp only [hU, hM, hU2, hM2, hUC, hBC, hUA, hMC, hBM, hMA, hAA, hA2, hAM, hAU, hAN, hCN, hSN, hNS0] at e; exact e))
 have E11 := Lib.hid (ff HMSN.out HMLA.out (by have e := L1.2.2.2.2.1; simp only [hU, hM, hU2, hM2, hUC, hBC, hUA, hMC, hBM, hMA, hAA, hA2, hAM, hAU, hAN, hCN, hSN, hNS0] at e; exact e))
 have E12 := Lib.hid (ff HMNS0.out HMn.out (by have e := L1.2.2.2.2.2; simp only [hU, hM, hU2, hM2, hUC, hBC, hUA, hMC, hBM, hMA, hAA, hA2, hAM, hAU, hAN, hCN, hSN, hNS0] at e; exact e))
 clear L1 L2 L3 ff HMPa HMPb HMPc hU hM hU2 hM2 hUC hBC hUA hMC hBM hMA hAA hA2 hAM hAU hAN hCN hSN hNS0
 go_enter Tryz.func5, Tryz.ntmps5
 go_upto_region 0 with fail
 refine wp_region_lit ?_
 try simp only [gelS]
 (refine wpList_boxB (t := 49) rfl _ rfl _ rfl ?_; intro b_b1 wn hle hge ht hbn hzn; have hsz := B.size; replace B := B.trans (hbn.mono (by omega)); have hln := Nat.lt_of_lt_of_eq (Nat.lt_succ_self _) hzn.symm; clear hzn; have b1 := ht; clear ht; simp only [putS])
 refine wpList_chunk 1 (by kernel_rfl) ?_
 simp only [takS, Nat.reduceAdd]
 repeat (first | go_big_quiet_skip | (go_big_quiet_want; go_big_quiet_op; go_big_quiet_on))
 refine wpQuiet_nil ?_
 refine wpList_nil ?_
 go_upto_region 1 with fail
 refine wp_region_lit ?_
 try simp only [gelS]
 refine wpList_callF (by first | rfl | simp [Region.wanted, yielded]) rfl (enters_of Tryz.func6 (by kernel_rfl) rfl) (by simp only [Act.eval, evlS]; rfl) ?_
 refine (sanity15 _).mono ?_
 rintro e wn ⟨rfl, hbn⟩
 have hsz := B.size
 have hzn := hbn.size
 replace B := B.trans (hbn.mono B.size)
 (try replace b1 := b1.below hbn)
 refine ⟨_, rfl, ?_⟩
 simp only [putS]
 refine wpList_chunk 1 (by kernel_rfl) ?_
 simp only [takS, Nat.reduceAdd]
 repeat (first | go_big_quiet_skip | (go_big_quiet_want; go_big_quiet_op; go_big_quiet_on))
 refine wpQuiet_nil ?_
 refine wpList_nil ?_
 go_upto_region 2 with fail
 refine wp_region_lit ?_
 try simp only [gelS]
 refine wpList_chunk 2 (by kernel_rfl) ?_
 simp only [takS, Nat.reduceAdd]
 repeat (first | go_big_quiet_skip | (go_big_quiet_want; first | (refine quiet_loadAny (t := 23) rfl _ _ _ rfl (fun w hw => run_load_sli ((ov_B b1 w hw).cell 0 rfl)) (by first | rfl | omega) ?_; simp only [putS]; go_big_quiet_on) | (go_big_quiet_op; go_big_quiet_on)))
 refine wpQuiet_nil ?_
 refine wpList_callF (by first | rfl | simp [Region.wanted, yielded]) rfl (enters_of Tryz.func12 (by kernel_rfl) rfl) (by simp only [Act.eval, evlS]; rfl) ?_
 refine (HMKa.out _ (Ha.out.below B)).mono ?_
 rintro e wn ⟨a1, c1, rfl, rs1, hbn⟩
 have hsz := B.size
 have hzn := hbn.size
 replace B := B.trans (hbn.mono B.size)
 (try replace b1 := b1.below hbn)
 (try replace rs1 := rs1.below hbn)
 refine ⟨_, rfl, ?_⟩
 simp only [putS]
 (refine wpList_allocBk (t := 34) rfl _ (run_alloc_R _ _ rfl) ?_; intro b_r4 wn hle hge ht hbn hzn; have hsz := B.size; replace B := B.trans (hbn.mono (by omega)); have hln := Nat.lt_of_lt_of_eq (Nat.lt_succ_self _) hzn.symm; clear hzn; (try have hlt := b1.lt); (try replace b1 := b1.below (hbn.mono hle)); (try have hlt := rs1.lt); (try replace rs1 := rs1.below (hbn.mono hle)); have r4 := ht; clear ht; simp only [putS])
 (refine wpList_storeB (t := 34) rfl _ _ rfl _ rfl _ rfl r4 (by kernel_rfl) rfl (by simp [Value.oneCell']) ?_; have r4o := r4; clear r4; intro wn ht hcn hzn; (try replace rs1 := rs1.chg r4o (by simp [rcA]) hcn); (try replace rs2 := rs2.chg r4o (by simp [rcA]) hcn); (try replace rs3 := rs3.chg r4o (by simp [rcA]) hcn); (try replace rs8 := rs8.chg r4o (by simp [rcA]) hcn); (try replace rs9 := rs9.chg r4o (by simp [rcA]) hcn); have hsz := B.size; replace hzn := Nat.le_of_eq hzn.symm; replace B := Chg.below B hcn (by omega) B.size; (try replace b1 := b1.of_eq (hcn.block _ b1.lt (by omega))); (try replace rs1 := rs1.of_eq (hcn.block _ rs1.lt (by omega))); have r4 := ht; clear ht; simp only [putS])
 refine wpList_nil ?_
 go_upto_region 3 with fail
 refine wp_region_lit ?_
 try simp only [gelS]
 refine wpList_chunk 2 (by kernel_rfl) ?_
 simp only [takS, Nat.reduceAdd]
 repeat (first | go_big_quiet_skip | (go_big_quiet_want; first | (refine quiet_loadAny (t := 23) rfl _ _ _ rfl (fun w hw => run_load_sli ((ov_B b1 w hw).cell 1 rfl)) (by first | rfl | omega) ?_; simp only [putS]; go_big_quiet_on) | (go_big_quiet_op; go_big_quiet_on)))
 refine wpQuiet_nil ?_
 refine wpList_callF (by first | rfl | simp [Region.wanted, yielded]) rfl (enters_of Tryz.func12 (by kernel_rfl) rfl) (by simp only [Act.eval, evlS]; rfl) ?_
 refine (HMKb.out _ (Hb.out.below B)).mono ?_
 rintro e wn ⟨a2, c2, rfl, rs2, hbn⟩
 have hsz := B.size
 have hzn := hbn.size
 replace B := B.trans (hbn.mono B.size)
 (try replace b1 := b1.below hbn)
 (try replace r4 := r4.below hbn)
 (try replace rs1 := rs1.below hbn)
 (try replace rs2 := rs2.below hbn)
 refine ⟨_, rfl, ?_⟩
 simp only [putS]
 (refine wpList_allocBk (t := 34) rfl _ (run_alloc_R _ _ rfl) ?_; intro b_r5 wn hle hge ht hbn hzn; have hsz := B.size; replace B := B.trans (hbn.mono (by omega)); have hln := Nat.lt_of_lt_of_eq (Nat.lt_succ_self _) hzn.symm; clear hzn; (try have hlt := b1.lt); (try replace b1 := b1.below (hbn.mono hle)); (try have hlt := r4.lt); (try replace r4 := r4.below (hbn.mono hle)); (try have hlt := rs1.lt); (try replace rs1 := rs1.below (hbn.mono hle)); (try have hlt := rs2.lt); (try replace rs2 := rs2.below (hbn.mono hle)); have r5 := ht; clear ht; simp only [putS])
 (refine wpList_storeB (t := 34) rfl _ _ rfl _ rfl _ rfl r5 (by kernel_rfl) rfl (by simp [Value.oneCell']) ?_; have r5o := r5; clear r5; intro wn ht hcn hzn; (try replace rs1 := rs1.chg r5o (by simp [rcA]) hcn); (try replace rs2 := rs2.chg r5o (by simp [rcA]) hcn); (try replace rs3 := rs3.chg r5o (by simp [rcA]) hcn); (try replace rs8 := rs8.chg r5o (by simp [rcA]) hcn); (try replace rs9 := rs9.chg r5o (by simp [rcA]) hcn); have hsz := B.size; replace hzn := Nat.le_of_eq hzn.symm; replace B := Chg.below B hcn (by omega) B.size; (try replace b1 := b1.of_eq (hcn.block _ b1.lt (by omega))); (try replace r4 := r4.of_eq (hcn.block _ r4.lt (by omega))); (try replace rs1 := rs1.of_eq (hcn.block _ rs1.lt (by omega))); (try replace rs2 := rs2.of_eq (hcn.block _ rs2.lt (by omega))); have r5 := ht; clear ht; simp only [putS])
 refine wpList_nil ?_
 go_upto_region 4 with fail
 refine wp_region_lit ?_
 try simp only [gelS]
 refine wpList_chunk 2 (by kernel_rfl) ?_
 simp only [takS, Nat.reduceAdd]
 repeat (first | go_big_quiet_skip | (go_big_quiet_want; first | (refine quiet_loadAny (t := 23) rfl _ _ _ rfl (fun w hw => run_load_sli ((ov_B b1 w hw).cell 2 rfl)) (by first | rfl | omega) ?_; simp only [putS]; go_big_quiet_on) | (go_big_quiet_op; go_big_quiet_on)))
 refine wpQuiet_nil ?_
 refine wpList_callF (by first | rfl | simp [Region.wanted, yielded]) rfl (enters_of Tryz.func12 (by kernel_rfl) rfl) (by simp only [Act.eval, evlS]; rfl) ?_
 refine (HMKc.out _ (Hc.out.below B)).mono ?_
 rintro e wn ⟨a3, c3, rfl, rs3, hbn⟩
 have hsz := B.size
 have hzn := hbn.size
 replace B := B.trans (hbn.mono B.size)
 (try replace b1 := b1.below hbn)
 (try replace r4 := r4.below hbn)
 (try replace r5 := r5.below hbn)
 (try replace rs1 := rs1.below hbn)
 (try replace rs2 := rs2.below hbn)
 (try replace rs3 := rs3.below hbn)
 refine ⟨_, rfl, ?_⟩
 simp only [putS]
 (refine wpList_allocBk (t := 34) rfl _ (run_alloc_R _ _ rfl) ?_; intro b_r6 wn hle hge ht hbn hzn; have hsz := B.size; replace B := B.trans (hbn.mono (by omega)); have hln := Nat.lt_of_lt_of_eq (Nat.lt_succ_self _) hzn.symm; clear hzn; (try have hlt := b1.lt); (try replace b1 := b1.below (hbn.mono hle)); (try have hlt := r4.lt); (try replace r4 := r4.below (hbn.mono hle)); (try have hlt := r5.lt); (try replace r5 := r5.below (hbn.mono hle)); (try have hlt := rs1.lt); (try replace rs1 := rs1.below (hbn.mono hle)); (try have hlt := rs2.lt); (try replace rs2 := rs2.below (hbn.mono hle)); (try have hlt := rs3.lt); (try replace rs3 := rs3.below (hbn.mono hle)); have r6 := ht; clear ht; simp only [putS])
 (refine wpList_storeB (t := 34) rfl _ _ rfl _ rfl _ rfl r6 (by kernel_rfl) rfl (by simp [Value.oneCell']) ?_; have r6o := r6; clear r6; intro wn ht hcn hzn; (try replace rs1 := rs1.chg r6o (by simp [rcA]) hcn); (try replace rs2 := rs2.chg r6o (by simp [rcA]) hcn); (try replace rs3 := rs3.chg r6o (by simp [rcA]) hcn); (try replace rs8 := rs8.chg r6o (by simp [rcA]) hcn); (try replace rs9 := rs9.chg r6o (by simp [rcA]) hcn); have hsz := B.size; replace hzn := Nat.le_of_eq hzn.symm; replace B := Chg.below B hcn (by omega) B.size; (try replace b1 := b1.of_eq (hcn.block _ b1.lt (by omega))); (try replace r4 := r4.of_eq (hcn.block _ r4.lt (by omega))); (try replace r5 := r5.of_eq (hcn.block _ r5.lt (by omega))); (try replace rs1 := rs1.of_eq (hcn.block _ rs1.lt (by omega))); (try replace rs2 := rs2.of_eq (hcn.block _ rs2.lt (by omega))); (try replace rs3 := rs3.of_eq (hcn.block _ rs3.lt (by omega))); have r6 := ht; clear ht; simp only [putS])
 refine wpList_nil ?_
 go_upto_region 5 with fail
 refine wp_region_lit ?_
 try simp only [gelS]
 (refine wpList_allocBk (t := 34) rfl _ (run_alloc_R _ _ rfl) ?_; intro b_r7 wn hle hge ht hbn hzn; have hsz := B.size; replace B := B.trans (hbn.mono (by omega)); have hln := Nat.lt_of_lt_of_eq (Nat.lt_succ_self _) hzn.symm; clear hzn; (try have hlt := b1.lt); (try replace b1 := b1.below (hbn.mono hle)); (try have hlt := r4.lt); (try replace r4 := r4.below (hbn.mono hle)); (try have hlt := r5.lt); (try replace r5 := r5.below (hbn.mono hle)); (try have hlt := r6.lt); (try replace r6 := r6.below (hbn.mono hle)); (try have hlt := rs1.lt); (try replace rs1 := rs1.below (hbn.mono hle)); (try have hlt := rs2.lt); (try replace rs2 := rs2.below (hbn.mono hle)); (try have hlt := rs3.lt); (try replace rs3 := rs3.below (hbn.mono hle)); have r7 := ht; clear ht; simp only [putS])
 refine wpList_nil ?_
 go_upto_region 6 with fail
 refine wp_region_lit ?_
 try simp only [gelS]
 refine wpList_chunk 2 (by kernel_rfl) ?_
 simp only [takS, Nat.reduceAdd]
 repeat (first | go_big_quiet_skip | (go_big_quiet_want; first | (refine quiet_loadAny (t := 34) rfl _ _ _ rfl (fun w hw => run_load_B (ov_B r4 w hw) Tryz.isAgg34 (by kernel_rfl)) (by rfl) ?_; simp only [putS]; go_big_quiet_on) | (refine quiet_loadAny (t := 34) rfl _ _ _ rfl (fun w hw => run_load_B (ov_B r5 w hw) Tryz.isAgg34 (by kernel_rfl)) (by rfl) ?_; simp only [putS]; go_big_quiet_on) | (refine quiet_loadAny (t := 34) rfl _ _ _ rfl (fun w hw => run_load_B (ov_B r6 w hw) Tryz.isAgg34 (by kernel_rfl)) (by rfl) ?_; simp only [putS]; go_big_quiet_on) | (refine quiet_loadAny (t := 34) rfl _ _ _ rfl (fun w hw => run_load_B (ov_B r7 w hw) Tryz.isAgg34 (by kernel_rfl)) (by rfl) ?_; simp only [putS]; go_big_quiet_on) | (refine quiet_loadAny (t := 34) rfl _ _ _ rfl (fun w hw => run_load_B (ov_B r8 w hw) Tryz.isAgg34 (by kernel_rfl)) (by rfl) ?_; simp only [putS]; go_big_quiet_on) | (refine quiet_loadAny (t := 34) rfl _ _ _ rfl (fun w hw => run_load_B (ov_B r9 w hw) Tryz.isAgg34 (by kernel_rfl)) (by rfl) ?_; simp only [putS]; go_big_quiet_on) | (go_big_quiet_op; go_big_quiet_on)))
 refine wpQuiet_nil ?_
 refine wpList_callF (by first | rfl | simp [Region.wanted, yielded]) rfl (enters_of Tryz.func13 (by kernel_rfl) rfl) (by simp only [Act.eval, evlS]; rfl) ?_
 refine (P_UnionV _ _ LA LB U _ rs1 rs2 HMLA.out.t HMLB.out.t HMLA.out.v HMLB.out.v HXU.out).mono ?_
 rintro e wn ⟨v8, rfl, rs8, hbn⟩
 have hsz := B.size
 have hzn := hbn.size
 replace B := B.trans (hbn.mono B.size)
 (try replace b1 := b1.below hbn)
 (try replace r4 := r4.below hbn)
 (try replace r5 := r5.below hbn)
 (try replace r6 := r6.below hbn)
 (try replace r7 := r7.below hbn)
 (try replace r8 := r8.below hbn)
 (try replace r9 := r9.below hbn)
 (try replace rs1 := rs1.below hbn)
 (try replace rs2 := rs2.below hbn)
 (try replace rs3 := rs3.below hbn)
 (try replace rs8 := rs8.below hbn)
 obtain ⟨a8, c8, rfl, _⟩ := rs8.len
 refine ⟨_, rfl, ?_⟩
 simp only [putS]
 (refine wpList_allocBk (t := 34) rfl _ (run_alloc_R _ _ rfl) ?_; intro b_r8 wn hle hge ht hbn hzn; have hsz := B.size; replace B := B.trans (hbn.mono (by omega)); have hln := Nat.lt_of_lt_of_eq (Nat.lt_succ_self _) hzn.symm; clear hzn; (try have hlt := b1.lt); (try replace b1 := b1.below (hbn.mono hle)); (try have hlt := r4.lt); (try replace r4 := r4.below (hbn.mono hle)); (try have hlt := r5.lt); (try replace r5 := r5.below (hbn.mono hle)); (try have hlt := r6.lt); (try replace r6 := r6.below (hbn.mono hle)); (try have hlt := r7.lt); (try replace r7 := r7.below (hbn.mono hle)); (try have hlt := r8.lt); (try replace r8 := r8.below (hbn.mono hle)); (try have hlt := r9.lt); (try replace r9 := r9.below (hbn.mono hle)); (try have hlt := rs1.lt); (try replace rs1 := rs1.below (hbn.mono hle)); (try have hlt := rs2.lt); (try replace rs2 := rs2.below (hbn.mono hle)); (try have hlt := rs3.lt); (try replace rs3 := rs3.below (hbn.mono hle)); (try have hlt := rs8.lt); (try replace rs8 := rs8.below (hbn.mono hle)); have r8 := ht; clear ht; simp only [putS])
 (refine wpList_storeB (t := 34) rfl _ _ rfl _ rfl _ rfl r8 (by kernel_rfl) rfl (by simp [Value.oneCell']) ?_; have r8o := r8; clear r8; intro wn ht hcn hzn; (try replace rs1 := rs1.chg r8o (by simp [rcA]) hcn); (try replace rs2 := rs2.chg r8o (by simp [rcA]) hcn); (try replace rs3 := rs3.chg r8o (by simp [rcA]) hcn); (try replace rs8 := rs8.chg r8o (by simp [rcA]) hcn); (try replace rs9 := rs9.chg r8o (by simp [rcA]) hcn); have hsz := B.size; replace hzn := Nat.le_of_eq hzn.symm; replace B := Chg.below B hcn (by omega) B.size; (try replace b1 := b1.of_eq (hcn.block _ b1.lt (by omega))); (try replace r4 := r4.of_eq (hcn.block _ r4.lt (by omega))); (try replace r5 := r5.of_eq (hcn.block _ r5.lt (by omega))); (try replace r6 := r6.of_eq (hcn.block _ r6.lt (by omega))); (try replace r7 := r7.of_eq (hcn.block _ r7.lt (by omega))); (try replace r9 := r9.of_eq (hcn.block _ r9.lt (by omega))); (try replace rs1 := rs1.of_eq (hcn.block _ rs1.lt (by omega))); (try replace rs2 := rs2.of_eq (hcn.block _ rs2.lt (by omega))); (try replace rs3 := rs3.of_eq (hcn.block _ rs3.lt (by omega))); (try replace rs8 := rs8.of_eq (hcn.block _ rs8.lt (by omega))); have r8 := ht; clear ht; simp only [putS])
 refine wpList_nil ?_
 go_upto_region 7 with fail
 refine wp_region_lit ?_
 try simp only [gelS]
 refine wpList_chunk 2 (by kernel_rfl) ?_
 simp only [takS, Nat.reduceAdd]
 repeat (first | go_big_quiet_skip | (go_big_quiet_want; first | (refine quiet_loadAny (t := 34) rfl _ _ _ rfl (fun w hw => run_load_B (ov_B r4 w hw) Tryz.isAgg34 (by kernel_rfl)) (by rfl) ?_; simp only [putS]; go_big_quiet_on) | (refine quiet_loadAny (t := 34) rfl _ _ _ rfl (fun w hw => run_load_B (ov_B r5 w hw) Tryz.isAgg34 (by kernel_rfl)) (by rfl) ?_; simp only [putS]; go_big_quiet_on) | (refine quiet_loadAny (t := 34) rfl _ _ _ rfl (fun w hw => run_load_B (ov_B r6 w hw) Tryz.isAgg34 (by kernel_rfl)) (by rfl) ?_; simp only [putS]; go_big_quiet_on) | (refine quiet_loadAny (t := 34) rfl _ _ _ rfl (fun w hw => run_load_B (ov_B r7 w hw) Tryz.isAgg34 (by kernel_rfl)) (by rfl) ?_; simp only [putS]; go_big_quiet_on) | (refine quiet_loadAny (t := 34) rfl _ _ _ rfl (fun w hw => run_load_B (ov_B r8 w hw) Tryz.isAgg34 (by kernel_rfl)) (by rfl) ?_; simp only [putS]; go_big_quiet_on) | (refine quiet_loadAny (t := 34) rfl _ _ _ rfl (fun w hw => run_load_B (ov_B r9 w hw) Tryz.isAgg34 (by kernel_rfl)) (by rfl) ?_; simp only [putS]; go_big_quiet_on) | (go_big_quiet_op; go_big_quiet_on)))
 refine wpQuiet_nil ?_
 refine wpList_callF (by first | rfl | simp [Region.wanted, yielded]) rfl (enters_of Tryz.func15 (by kernel_rfl) rfl) (by simp only [Act.eval, evlS]; rfl) ?_
 refine (P_CommonV _ _ LA LB M _ rs1 rs2 HMLA.out.t HMLB.out.t HMLA.out.v HMLB.out.v HXM.out).mono ?_
 rintro e wn ⟨v9, rfl, rs9, hbn⟩
 have hsz := B.size
 have hzn := hbn.size
 replace B := B.trans (hbn.mono B.size)
 (try replace b1 := b1.below hbn)
 (try replace r4 := r4.below hbn)
 (try replace r5 := r5.below hbn)
 (try replace r6 := r6.below hbn)
 (try replace r7 := r7.below hbn)
 (try replace r8 := r8.below hbn)
 (try replace r9 := r9.below hbn)
 (try replace rs1 := rs1.below hbn)
 (try replace rs2 := rs2.below hbn)
 (try replace rs3 := rs3.below hbn)
 (try replace rs8 := rs8.below hbn)
 (try replace rs9 := rs9.below hbn)
 obtain ⟨a9, c9, rfl, _⟩ := rs9.len
 refine ⟨_, rfl, ?_⟩
 simp only [putS]
 (refine wpList_allocBk (t := 34) rfl _ (run_alloc_R _ _ rfl) ?_; intro b_r9 wn hle hge ht hbn hzn; have hsz := B.size; replace B := B.trans (hbn.mono (by omega)); have hln := Nat.lt_of_lt_of_eq (Nat.lt_succ_self _) hzn.symm; clear hzn; (try have hlt := b1.lt); (try replace b1 := b1.below (hbn.mono hle)); (try have hlt := r4.lt); (try replace r4 := r4.below (hbn.mono hle)); (try have hlt := r5.lt); (try replace r5 := r5.below (hbn.mono hle)); (try have hlt := r6.lt); (try replace r6 := r6.below (hbn.mono hle)); (try have hlt := r7.lt); (try replace r7 := r7.below (hbn.mono hle)); (try have hlt := r8.lt); (try replace r8 := r8.below (hbn.mono hle)); (try have hlt := r9.lt); (try replace r9 := r9.below (hbn.mono hle)); (try have hlt := rs1.lt); (try replace rs1 := rs1.below (hbn.mono hle)); (try have hlt := rs2.lt); (try replace rs2 := rs2.below (hbn.mono hle)); (try have hlt := rs3.lt); (try replace rs3 := rs3.below (hbn.mono hle)); (try have hlt := rs8.lt); (try replace rs8 := rs8.below (hbn.mono hle)); (try have hlt := rs9.lt); (try replace rs9 := rs9.below (hbn.mono hle)); have r9 := ht; clear ht; simp only [putS])
 (refine wpList_storeB (t := 34) rfl _ _ rfl _ rfl _ rfl r9 (by kernel_rfl) rfl (by simp [Value.oneCell']) ?_; have r9o := r9; clear r9; intro wn ht hcn hzn; (try replace rs1 := rs1.chg r9o (by simp [rcA]) hcn); (try replace rs2 := rs2.chg r9o (by simp [rcA]) hcn); (try replace rs3 := rs3.chg r9o (by simp [rcA]) hcn); (try replace rs8 := rs8.chg r9o (by simp [rcA]) hcn); (try replace rs9 := rs9.chg r9o (by simp [rcA]) hcn); have hsz := B.size; replace hzn := Nat.le_of_eq hzn.symm; replace B := Chg.below B hcn (by omega) B.size; (try replace b1 := b1.of_eq (hcn.block _ b1.lt (by omega))); (try replace r4 := r4.of_eq (hcn.block _ r4.lt (by omega))); (try replace r5 := r5.of_eq (hcn.block _ r5.lt (by omega))); (try replace r6 := r6.of_eq (hcn.block _ r6.lt (by omega))); (try replace r7 := r7.of_eq (hcn.block _ r7.lt (by omega))); (try replace r8 := r8.of_eq (hcn.block _ r8.lt (by omega))); (try replace rs1 := rs1.of_eq (hcn.block _ rs1.lt (by omega))); (try replace rs2 := rs2.of_eq (hcn.block _ rs2.lt (by omega))); (try replace rs3 := rs3.of_eq (hcn.block _ rs3.lt (by omega))); (try replace rs8 := rs8.of_eq (hcn.block _ rs8.lt (by omega))); (try replace rs9 := rs9.of_eq (hcn.block _ rs9.lt (by omega))); have r9 := ht; clear ht; simp only [putS])
 refine wpList_nil ?_
 go_upto_region 8 with fail
 try simp only [gelS]
 try have lx_b1 := b1.lt
 try have lx_r4 := r4.lt
 try have lx_r5 := r5.lt
 try have lx_r6 := r6.lt
 try have lx_r7 := r7.lt
 try have lx_r8 := r8.lt
 try have lx_r9 := r9.lt
 try have lx_rs1 := rs1.lt
 try have lx_rs2 := rs2.lt
 try have lx_rs3 := rs3.lt
 try have lx_rs8 := rs8.lt
 try have lx_rs9 := rs9.lt
 refine wp_region_RL 35 [(3, rasS (U2)), (4, detS ?v1_4), (9, rasS (M2)), (10, detS ?v1_10), (15, rasS (UC)), (19, rasS (BC)), (20, rasS (UA)), (21, detS ?v1_21), (26, rasS (MC)), (30, rasS (BM)), (31, rasS (MA)), (32, detS ?v1_32)] (by kernel_rfl) (by kernel_rfl) (by kernel_rfl) ?_
 rotate_left 4
 simp only [takS, Nat.reduceAdd]
 refine wpRL_chunk 3 (by kernel_rfl) ?_
 simp only [takS, Nat.reduceAdd]
 repeat (first | go_big_quiet_skip | (go_big_quiet_want; first | (refine quiet_loadAny (t := 34) rfl _ _ _ rfl (fun w hw => run_load_B (ov_B r4 w hw) Tryz.isAgg34 (by kernel_rfl)) (by rfl) ?_; simp only [putS]; go_big_quiet_on) | (refine quiet_loadAny (t := 34) rfl _ _ _ rfl (fun w hw => run_load_B (ov_B r5 w hw) Tryz.isAgg34 (by kernel_rfl)) (by rfl) ?_; simp only [putS]; go_big_quiet_on) | (refine quiet_loadAny (t := 34) rfl _ _ _ rfl (fun w hw => run_load_B (ov_B r6 w hw) Tryz.isAgg34 (by kernel_rfl)) (by rfl) ?_; simp only [putS]; go_big_quiet_on) | (refine quiet_loadAny (t := 34) rfl _ _ _ rfl (fun w hw => run_load_B (ov_B r7 w hw) Tryz.isAgg34 (by kernel_rfl)) (by rfl) ?_; simp only [putS]; go_big_quiet_on) | (refine quiet_loadAny (t := 34) rfl _ _ _ rfl (fun w hw => run_load_B (ov_B r8 w hw) Tryz.isAgg34 (by kernel_rfl)) (by rfl) ?_; simp only [putS]; go_big_quiet_on) | (refine quiet_loadAny (t := 34) rfl _ _ _ rfl (fun w hw => run_load_B (ov_B r9 w hw) Tryz.isAgg34 (by kernel_rfl)) (by rfl) ?_; simp only [putS]; go_big_quiet_on) | (go_big_quiet_op; go_big_quiet_on)))
 refine wpQuiet_nil ?_
 refine wpRL_callB (by rfl) (by first | rfl | simp [Region.wanted, yielded]) ?_ ?_
 ·intro wn hbn hE Kx hKx
  have hsz := B.size
  have hzn := hbn.size
  replace B := B.trans (hbn.mono B.size)
  (try replace b1 := b1.below hbn)
  (try replace r4 := r4.below hbn)
  (try replace r5 := r5.below hbn)
  (try replace r6 := r6.below hbn)
  (try replace r7 := r7.below hbn)
  (try replace r8 := r8.below hbn)
  (try replace r9 := r9.below hbn)
  (try replace rs1 := rs1.below hbn)
  (try replace rs2 := rs2.below hbn)
  (try replace rs3 := rs3.below hbn)
  (try replace rs8 := rs8.below hbn)
  (try replace rs9 := rs9.below hbn)
  refine wp_callF rfl (enters_of Tryz.func13 (by kernel_rfl) rfl) (by simp only [Act.eval, evlS]; rfl) ?_
  refine (P_UnionV _ _ LB LA U2 wn rs2 rs1 HMLB.out.t HMLA.out.t HMLB.out.v HMLA.out.v HXU2.out).mono ?_
  rintro e wm ⟨v', rfl, hr, hbm⟩
  obtain ⟨a', c', rfl, _⟩ := hr.len
  exact ⟨_, rfl, hKx (a', c') wm hr hbm⟩
 rintro ⟨a32, c32⟩
 dsimp only [detS, rasS]
 simp only [putS]
 refine wpRL_callB (by rfl) (by first | rfl | simp [Region.wanted, yielded]) ?_ ?_
 ·intro wn hbn hE Kx hKx
  have hsz := B.size
  have hzn := hbn.size
  replace B := B.trans (hbn.mono B.size)
  (try replace b1 := b1.below hbn)
  (try replace r4 := r4.below hbn)
  (try replace r5 := r5.below hbn)
  (try replace r6 := r6.below hbn)
  (try replace r7 := r7.below hbn)
  (try replace r8 := r8.below hbn)
  (try replace r9 := r9.below hbn)
  (try replace rs1 := rs1.below hbn)
  (try replace rs2 := rs2.below hbn)
  (try replace rs3 := rs3.below hbn)
  (try replace rs8 := rs8.below hbn)
  (try replace rs9 := rs9.below hbn)
  have n32 := hE 3 (by kernel_rfl)
  change RS _ _ _ at n32
  refine wp_callF rfl (enters_of Tryz.func19 (by kernel_rfl) rfl) (by simp only [Act.eval, evlS]; rfl) ?_
  refine (P_EqualT _ _ U U2 wn rs8 n32 HMU.out.t HMU2.out.t (valid_len HMU.out.v) (valid_len HMU2.out.v) E1.out).mono ?_
  rintro e wm ⟨rfl, hbm⟩
  refine ⟨_, rfl, ?_⟩
  have hz := hKx () wm trivial hbm
  dsimp only [detS] at hz
  exact hz
 rintro ⟨⟩
 dsimp only [detS]
 simp only [putS]
 refine wpRL_chunk 4 (by kernel_rfl) ?_
 simp only [takS, Nat.reduceAdd]
 repeat (first | go_big_quiet_skip | (go_big_quiet_want; first | (refine quiet_loadAny (t := 34) rfl _ _ _ rfl (fun w hw => run_load_B (ov_B r4 w hw) Tryz.isAgg34 (by kernel_rfl)) (by rfl) ?_; simp only [putS]; go_big_quiet_on) | (refine quiet_loadAny (t := 34) rfl _ _ _ rfl (fun w hw => run_load_B (ov_B r5 w hw) Tryz.isAgg34 (by kernel_rfl)) (by rfl) ?_; simp only [putS]; go_big_quiet_on) | (refine quiet_loadAny (t := 34) rfl _ _ _ rfl (fun w hw => run_load_B (ov_B r6 w hw) Tryz.isAgg34 (by kernel_rfl)) (by rfl) ?_; simp only [putS]; go_big_quiet_on) | (refine quiet_loadAny (t := 34) rfl _ _ _ rfl (fun w hw => run_load_B (ov_B r7 w hw) Tryz.isAgg34 (by kernel_rfl)) (by rfl) ?_; simp only [putS]; go_big_quiet_on) | (refine quiet_loadAny (t := 34) rfl _ _ _ rfl (fun w hw => run_load_B (ov_B r8 w hw) Tryz.isAgg34 (by kernel_rfl)) (by rfl) ?_; simp only [putS]; go_big_quiet_on) | (refine quiet_loadAny (t := 34) rfl _ _ _ rfl (fun w hw => run_load_B (ov_B r9 w hw) Tryz.isAgg34 (by kernel_rfl)) (by rfl) ?_; simp only [putS]; go_big_quiet_on) | (go_big_quiet_op; go_big_quiet_on)))
 refine wpQuiet_nil ?_
 refine wpRL_callB (by rfl) ?hw1_9 ?_ ?_
 case hw1_9 => kernel_rfl
 ·intro wn hbn hE Kx hKx
  have hsz := B.size
  have hzn := hbn.size
  replace B := B.trans (hbn.mono B.size)
  (try replace b1 := b1.below hbn)
  (try replace r4 := r4.below hbn)
  (try replace r5 := r5.below hbn)
  (try replace r6 := r6.below hbn)
  (try replace r7 := r7.below hbn)
  (try replace r8 := r8.below hbn)
  (try replace r9 := r9.below hbn)
  (try replace rs1 := rs1.below hbn)
  (try replace rs2 := rs2.below hbn)
  (try replace rs3 := rs3.below hbn)
  (try replace rs8 := rs8.below hbn)
  (try replace rs9 := rs9.below hbn)
  refine wp_callF rfl (enters_of Tryz.func15 (by kernel_rfl) rfl) (by simp only [Act.eval, evlS]; rfl) ?_
  refine (P_CommonV _ _ LB LA M2 wn rs2 rs1 HMLB.out.t HMLA.out.t HMLB.out.v HMLA.out.v HXM2.out).mono ?_
  rintro e wm ⟨v', rfl, hr, hbm⟩
  obtain ⟨a', c', rfl, _⟩ := hr.len
  exact ⟨_, rfl, hKx (a', c') wm hr hbm⟩
 rintro ⟨a38, c38⟩
 dsimp only [detS, rasS]
 simp only [putS]
 refine wpRL_callB (by rfl) ?hw1_10 ?_ ?_
 case hw1_10 => kernel_rfl
 ·intro wn hbn hE Kx hKx
  have hsz := B.size
  have hzn := hbn.size
  replace B := B.trans (hbn.mono B.size)
  (try replace b1 := b1.below hbn)
  (try replace r4 := r4.below hbn)
  (try replace r5 := r5.below hbn)
  (try replace r6 := r6.below hbn)
  (try replace r7 := r7.below hbn)
  (try replace r8 := r8.below hbn)
  (try replace r9 := r9.below hbn)
  (try replace rs1 := rs1.below hbn)
  (try replace rs2 := rs2.below hbn)
  (try replace rs3 := rs3.below hbn)
  (try replace rs8 := rs8.below hbn)
  (try replace rs9 := rs9.below hbn)
  have n38 := hE 9 (by kernel_rfl)
  change RS _ _ _ at n38
  refine wp_callF rfl (enters_of Tryz.func19 (by kernel_rfl) rfl) (by simp only [Act.eval, evlS]; rfl) ?_
  refine (P_EqualT _ _ M M2 wn rs9 n38 HMM.out.t HMM2.out.t (valid_len HMM.out.v) (valid_len HMM2.out.v) E2.out).mono ?_
  rintro e wm ⟨rfl, hbm⟩
  refine ⟨_, rfl, ?_⟩
  have hz := hKx () wm trivial hbm
  dsimp only [detS] at hz
  exact hz
 rintro ⟨⟩
 dsimp only [detS]
 simp only [putS]
 refine wpRL_chunk 4 (by kernel_rfl) ?_
 simp only [takS, Nat.reduceAdd]
 repeat (first | go_big_quiet_skip | (go_big_quiet_want; first | (refine quiet_loadAny (t := 34) rfl _ _ _ rfl (fun w hw => run_load_B (ov_B r4 w hw) Tryz.isAgg34 (by kernel_rfl)) (by rfl) ?_; simp only [putS]; go_big_quiet_on) | (refine quiet_loadAny (t := 34) rfl _ _ _ rfl (fun w hw => run_load_B (ov_B r5 w hw) Tryz.isAgg34 (by kernel_rfl)) (by rfl) ?_; simp only [putS]; go_big_quiet_on) | (refine quiet_loadAny (t := 34) rfl _ _ _ rfl (fun w hw => run_load_B (ov_B r6 w hw) Tryz.isAgg34 (by kernel_rfl)) (by rfl) ?_; simp only [putS]; go_big_quiet_on) | (refine quiet_loadAny (t := 34) rfl _ _ _ rfl (fun w hw => run_load_B (ov_B r7 w hw) Tryz.isAgg34 (by kernel_rfl)) (by rfl) ?_; simp only [putS]; go_big_quiet_on) | (refine quiet_loadAny (t := 34) rfl _ _ _ rfl (fun w hw => run_load_B (ov_B r8 w hw) Tryz.isAgg34 (by kernel_rfl)) (by rfl) ?_; simp only [putS]; go_big_quiet_on) | (refine quiet_loadAny (t := 34) rfl _ _ _ rfl (fun w hw => run_load_B (ov_B r9 w hw) Tryz.isAgg34 (by kernel_rfl)) (by rfl) ?_; simp only [putS]; go_big_quiet_on) | (go_big_quiet_op; go_big_quiet_on)))
 refine wpQuiet_nil ?_
 refine wpRL_callB (by rfl) ?hw1_15 ?_ ?_
 case hw1_15 => kernel_rfl
 ·intro wn hbn hE Kx hKx
  have hsz := B.size
  have hzn := hbn.size
  replace B := B.trans (hbn.mono B.size)
  (try replace b1 := b1.below hbn)
  (try replace r4 := r4.below hbn)
  (try replace r5 := r5.below hbn)
  (try replace r6 := r6.below hbn)
  (try replace r7 := r7.below hbn)
  (try replace r8 := r8.below hbn)
  (try replace r9 := r9.below hbn)
  (try replace rs1 := rs1.below hbn)
  (try replace rs2 := rs2.below hbn)
  (try replace rs3 := rs3.below hbn)
  (try replace rs8 := rs8.below hbn)
  (try replace rs9 := rs9.below hbn)
  refine wp_callF rfl (enters_of Tryz.func13 (by kernel_rfl) rfl) (by simp only [Act.eval, evlS]; rfl) ?_
  refine (P_UnionV _ _ U LC UC wn rs8 rs3 HMU.out.t HMLC.out.t HMU.out.v HMLC.out.v HXUC.out).mono ?_
  rintro e wm ⟨v', rfl, hr, hbm⟩
  obtain ⟨a', c', rfl, _⟩ := hr.len
  exact ⟨_, rfl, hKx (a', c') wm hr hbm⟩
 rintro ⟨a44, c44⟩
 dsimp only [detS, rasS]
 simp only [putS]
 refine wpRL_chunk 3 (by kernel_rfl) ?_
 simp only [takS, Nat.reduceAdd]
 repeat (first | go_big_quiet_skip | (go_big_quiet_want; first | (refine quiet_loadAny (t := 34) rfl _ _ _ rfl (fun w hw => run_load_B (ov_B r4 w hw) Tryz.isAgg34 (by kernel_rfl)) (by rfl) ?_; simp only [putS]; go_big_quiet_on) | (refine quiet_loadAny (t := 34) rfl _ _ _ rfl (fun w hw => run_load_B (ov_B r5 w hw) Tryz.isAgg34 (by kernel_rfl)) (by rfl) ?_; simp only [putS]; go_big_quiet_on) | (refine quiet_loadAny (t := 34) rfl _ _ _ rfl (fun w hw => run_load_B (ov_B r6 w hw) Tryz.isAgg34 (by kernel_rfl)) (by rfl) ?_; simp only [putS]; go_big_quiet_on) | (refine quiet_loadAny (t := 34) rfl _ _ _ rfl (fun w hw => run_load_B (ov_B r7 w hw) Tryz.isAgg34 (by kernel_rfl)) (by rfl) ?_; simp only [putS]; go_big_quiet_on) | (refine quiet_loadAny (t := 34) rfl _ _ _ rfl (fun w hw => run_load_B (ov_B r8 w hw) Tryz.isAgg34 (by kernel_rfl)) (by rfl) ?_; simp only [putS]; go_big_quiet_on) | (refine quiet_loadAny (t := 34) rfl _ _ _ rfl (fun w hw => run_load_B (ov_B r9 w hw) Tryz.isAgg34 (by kernel_rfl)) (by rfl) ?_; simp only [putS]; go_big_quiet_on) | (go_big_quiet_op; go_big_quiet_on)))
 refine wpQuiet_nil ?_
 refine wpRL_callB (by rfl) ?hw1_19 ?_ ?_
 case hw1_19 => kernel_rfl
 ·intro wn hbn hE Kx hKx
  have hsz := B.size
  have hzn := hbn.size
  replace B := B.trans (hbn.mono B.size)
  (try replace b1 := b1.below hbn)
  (try replace r4 := r4.below hbn)
  (try replace r5 := r5.below hbn)
  (try replace r6 := r6.below hbn)
  (try replace r7 := r7.below hbn)
  (try replace r8 := r8.below hbn)
  (try replace r9 := r9.below hbn)
  (try replace rs1 := rs1.below hbn)
  (try replace rs2 := rs2.below hbn)
  (try replace rs3 := rs3.below hbn)
  (try replace rs8 := rs8.below hbn)
  (try replace rs9 := rs9.below hbn)
  refine wp_callF rfl (enters_of Tryz.func13 (by kernel_rfl) rfl) (by simp only [Act.eval, evlS]; rfl) ?_
  refine (P_UnionV _ _ LB LC BC wn rs2 rs3 HMLB.out.t HMLC.out.t HMLB.out.v HMLC.out.v HXBC.out).mono ?_
  rintro e wm ⟨v', rfl, hr, hbm⟩
  obtain ⟨a', c', rfl, _⟩ := hr.len
  exact ⟨_, rfl, hKx (a', c') wm hr hbm⟩
 rintro ⟨a48, c48⟩
 dsimp only [detS, rasS]
 simp only [putS]
 refine wpRL_callB (by rfl) ?hw1_20 ?_ ?_
 case hw1_20 => kernel_rfl
 ·intro wn hbn hE Kx hKx
  have hsz := B.size
  have hzn := hbn.size
  replace B := B.trans (hbn.mono B.size)
  (try replace b1 := b1.below hbn)
  (try replace r4 := r4.below hbn)
  (try replace r5 := r5.below hbn)
  (try replace r6 := r6.below hbn)
  (try replace r7 := r7.below hbn)
  (try replace r8 := r8.below hbn)
  (try replace r9 := r9.below hbn)
  (try replace rs1 := rs1.below hbn)
  (try replace rs2 := rs2.below hbn)
  (try replace rs3 := rs3.below hbn)
  (try replace rs8 := rs8.below hbn)
  (try replace rs9 := rs9.below hbn)
  have n48 := hE 19 (by kernel_rfl)
  change RS _ _ _ at n48
  refine wp_callF rfl (enters_of Tryz.func13 (by kernel_rfl) rfl) (by simp only [Act.eval, evlS]; rfl) ?_
  refine (P_UnionV _ _ LA BC UA wn rs1 n48 HMLA.out.t HMBC.out.t HMLA.out.v HMBC.out.v HXUA.out).mono ?_
  rintro e wm ⟨v', rfl, hr, hbm⟩
  obtain ⟨a', c', rfl, _⟩ := hr.len
  exact ⟨_, rfl, hKx (a', c') wm hr hbm⟩
 rintro ⟨a49, c49⟩
 dsimp only [detS, rasS]
 simp only [putS]
 refine wpRL_callB (by rfl) ?hw1_21 ?_ ?_
 case hw1_21 => kernel_rfl
 ·intro wn hbn hE Kx hKx
  have hsz := B.size
  have hzn := hbn.size
  replace B := B.trans (hbn.mono B.size)
  (try replace b1 := b1.below hbn)
  (try replace r4 := r4.below hbn)
  (try replace r5 := r5.below hbn)
  (try replace r6 := r6.below hbn)
  (try replace r7 := r7.below hbn)
  (try replace r8 := r8.below hbn)
  (try replace r9 := r9.below hbn)
  (try replace rs1 := rs1.below hbn)
  (try replace rs2 := rs2.below hbn)
  (try replace rs3 := rs3.below hbn)
  (try replace rs8 := rs8.below hbn)
  (try replace rs9 := rs9.below hbn)
  have n44 := hE 15 (by kernel_rfl)
  change RS _ _ _ at n44
  have n49 := hE 20 (by kernel_rfl)
  change RS _ _ _ at n49
  refine wp_callF rfl (enters_of Tryz.func19 (by kernel_rfl) rfl) (by simp only [Act.eval, evlS]; rfl) ?_
  refine (P_EqualT _ _ UC UA wn n44 n49 HMUC.out.t HMUA.out.t (valid_len HMUC.out.v) (valid_len HMUA.out.v) E3.out).mono ?_
  rintro e wm ⟨rfl, hbm⟩
  refine ⟨_, rfl, ?_⟩
  have hz := hKx () wm trivial hbm
  dsimp only [detS] at hz
  exact hz
 rintro ⟨⟩
 dsimp only [detS]
 simp only [putS]
 refine wpRL_chunk 4 (by kernel_rfl) ?_
 simp only [takS, Nat.reduceAdd]
 repeat (first | go_big_quiet_skip | (go_big_quiet_want; first | (refine quiet_loadAny (t := 34) rfl _ _ _ rfl (fun w hw => run_load_B (ov_B r4 w hw) Tryz.isAgg34 (by kernel_rfl)) (by rfl) ?_; simp only [putS]; go_big_quiet_on) | (refine quiet_loadAny (t := 34) rfl _ _ _ rfl (fun w hw => run_load_B (ov_B r5 w hw) Tryz.isAgg34 (by kernel_rfl)) (by rfl) ?_; simp only [putS]; go_big_quiet_on) | (refine quiet_loadAny (t := 34) rfl _ _ _ rfl (fun w hw => run_load_B (ov_B r6 w hw) Tryz.isAgg34 (by kernel_rfl)) (by rfl) ?_; simp only [putS]; go_big_quiet_on) | (refine quiet_loadAny (t := 34) rfl _ _ _ rfl (fun w hw => run_load_B (ov_B r7 w hw) Tryz.isAgg34 (by kernel_rfl)) (by rfl) ?_; simp only [putS]; go_big_quiet_on) | (refine quiet_loadAny (t := 34) rfl _ _ _ rfl (fun w hw => run_load_B (ov_B r8 w hw) Tryz.isAgg34 (by kernel_rfl)) (by rfl) ?_; simp only [putS]; go_big_quiet_on) | (refine quiet_loadAny (t := 34) rfl _ _ _ rfl (fun w hw => run_load_B (ov_B r9 w hw) Tryz.isAgg34 (by kernel_rfl)) (by rfl) ?_; simp only [putS]; go_big_quiet_on) | (go_big_quiet_op; go_big_quiet_on)))
 refine wpQuiet_nil ?_
 refine wpRL_callB (by rfl) ?hw1_26 ?_ ?_
 case hw1_26 => kernel_rfl
 ·intro wn hbn hE Kx hKx
  have hsz := B.size
  have hzn := hbn.size
  replace B := B.trans (hbn.mono B.size)
  (try replace b1 := b1.below hbn)
  (try replace r4 := r4.below hbn)
  (try replace r5 := r5.below hbn)
  (try replace r6 := r6.below hbn)
  (try replace r7 := r7.below hbn)
  (try replace r8 := r8.below hbn)
  (try replace r9 := r9.below hbn)
  (try replace rs1 := rs1.below hbn)
  (try replace rs2 := rs2.below hbn)
  (try replace rs3 := rs3.below hbn)
  (try replace rs8 := rs8.below hbn)
  (try replace rs9 := rs9.below hbn)
  refine wp_callF rfl (enters_of Tryz.func15 (by kernel_rfl) rfl) (by simp only [Act.eval, evlS]; rfl) ?_
  refine (P_CommonV _ _ M LC MC wn rs9 rs3 HMM.out.t HMLC.out.t HMM.out.v HMLC.out.v HXMC.out).mono ?_
  rintro e wm ⟨v', rfl, hr, hbm⟩
  obtain ⟨a', c', rfl, _⟩ := hr.len
  exact ⟨_, rfl, hKx (a', c') wm hr hbm⟩
 rintro ⟨a55, c55⟩
 dsimp only [detS, rasS]
 simp only [putS]
 refine wpRL_chunk 3 (by kernel_rfl) ?_
 simp only [takS, Nat.reduceAdd]
 repeat (first | go_big_quiet_skip | (go_big_quiet_want; first | (refine quiet_loadAny (t := 34) rfl _ _ _ rfl (fun w hw => run_load_B (ov_B r4 w hw) Tryz.isAgg34 (by kernel_rfl)) (by rfl) ?_; simp only [putS]; go_big_quiet_on) | (refine quiet_loadAny (t := 34) rfl _ _ _ rfl (fun w hw => run_load_B (ov_B r5 w hw) Tryz.isAgg34 (by kernel_rfl)) (by rfl) ?_; simp only [putS]; go_big_quiet_on) | (refine quiet_loadAny (t := 34) rfl _ _ _ rfl (fun w hw => run_load_B (ov_B r6 w hw) Tryz.isAgg34 (by kernel_rfl)) (by rfl) ?_; simp only [putS]; go_big_quiet_on) | (refine quiet_loadAny (t := 34) rfl _ _ _ rfl (fun w hw => run_load_B (ov_B r7 w hw) Tryz.isAgg34 (by kernel_rfl)) (by rfl) ?_; simp only [putS]; go_big_quiet_on) | (refine quiet_loadAny (t := 34) rfl _ _ _ rfl (fun w hw => run_load_B (ov_B r8 w hw) Tryz.isAgg34 (by kernel_rfl)) (by rfl) ?_; simp only [putS]; go_big_quiet_on) | (refine quiet_loadAny (t := 34) rfl _ _ _ rfl (fun w hw => run_load_B (ov_B r9 w hw) Tryz.isAgg34 (by kernel_rfl)) (by rfl) ?_; simp only [putS]; go_big_quiet_on) | (go_big_quiet_op; go_big_quiet_on)))
 refine wpQuiet_nil ?_
 refine wpRL_callB (by rfl) ?hw1_30 ?_ ?_
 case hw1_30 => kernel_rfl
 ·intro wn hbn hE Kx hKx
  have hsz := B.size
  have hzn := hbn.size
  replace B := B.trans (hbn.mono B.size)
  (try replace b1 := b1.below hbn)
  (try replace r4 := r4.below hbn)
  (try replace r5 := r5.below hbn)
  (try replace r6 := r6.below hbn)
  (try replace r7 := r7.below hbn)
  (try replace r8 := r8.below hbn)
  (try replace r9 := r9.below hbn)
  (try replace rs1 := rs1.below hbn)
  (try replace rs2 := rs2.below hbn)
  (try replace rs3 := rs3.below hbn)
  (try replace rs8 := rs8.below hbn)
  (try replace rs9 := rs9.below hbn)
  refine wp_callF rfl (enters_of Tryz.func15 (by kernel_rfl) rfl) (by simp only [Act.eval, evlS]; rfl) ?_
  refine (P_CommonV _ _ LB LC BM wn rs2 rs3 HMLB.out.t HMLC.out.t HMLB.out.v HMLC.out.v HXBM.out).mono ?_
  rintro e wm ⟨v', rfl, hr, hbm⟩
  obtain ⟨a', c', rfl, _⟩ := hr.len
  exact ⟨_, rfl, hKx (a', c') wm hr hbm⟩
 rintro ⟨a59, c59⟩
 dsimp only [detS, rasS]
 simp only [putS]
 refine wpRL_callB (by rfl) ?hw1_31 ?_ ?_
 case hw1_31 => kernel_rfl
 ·intro wn hbn hE Kx hKx
  have hsz := B.size
  have hzn := hbn.size
  replace B := B.trans (hbn.mono B.size)
  (try replace b1 := b1.below hbn)
  (try replace r4 := r4.below hbn)
  (try replace r5 := r5.below hbn)
  (try replace r6 := r6.below hbn)
  (try replace r7 := r7.below hbn)
  (try replace r8 := r8.below hbn)
  (try replace r9 := r9.below hbn)
  (try replace rs1 := rs1.below hbn)
  (try replace rs2 := rs2.below hbn)
  (try replace rs3 := rs3.below hbn)
  (try replace rs8 := rs8.below hbn)
  (try replace rs9 := rs9.below hbn)
  have n59 := hE 30 (by kernel_rfl)
  change RS _ _ _ at n59
  refine wp_callF rfl (enters_of Tryz.func15 (by kernel_rfl) rfl) (by simp only [Act.eval, evlS]; rfl) ?_
  refine (P_CommonV _ _ LA BM MA wn rs1 n59 HMLA.out.t HMBM.out.t HMLA.out.v HMBM.out.v HXMA.out).mono ?_
  rintro e wm ⟨v', rfl, hr, hbm⟩
  obtain ⟨a', c', rfl, _⟩ := hr.len
  exact ⟨_, rfl, hKx (a', c') wm hr hbm⟩
 rintro ⟨a60, c60⟩
 dsimp only [detS, rasS]
 simp only [putS]
 refine wpRL_callB (by rfl) ?hw1_32 ?_ ?_
 case hw1_32 => kernel_rfl
 ·intro wn hbn hE Kx hKx
  have hsz := B.size
  have hzn := hbn.size
  replace B := B.trans (hbn.mono B.size)
  (try replace b1 := b1.below hbn)
  (try replace r4 := r4.below hbn)
  (try replace r5 := r5.below hbn)
  (try replace r6 := r6.below hbn)
  (try replace r7 := r7.below hbn)
  (try replace r8 := r8.below hbn)
  (try replace r9 := r9.below hbn)
  (try replace rs1 := rs1.below hbn)
  (try replace rs2 := rs2.below hbn)
  (try replace rs3 := rs3.below hbn)
  (try replace rs8 := rs8.below hbn)
  (try replace rs9 := rs9.below hbn)
  have n55 := hE 26 (by kernel_rfl)
  change RS _ _ _ at n55
  have n60 := hE 31 (by kernel_rfl)
  change RS _ _ _ at n60
  refine wp_callF rfl (enters_of Tryz.func19 (by kernel_rfl) rfl) (by simp only [Act.eval, evlS]; rfl) ?_
  refine (P_EqualT _ _ MC MA wn n55 n60 HMMC.out.t HMMA.out.t (valid_len HMMC.out.v) (valid_len HMMA.out.v) E4.out).mono ?_
  rintro e wm ⟨rfl, hbm⟩
  refine ⟨_, rfl, ?_⟩
  have hz := hKx () wm trivial hbm
  dsimp only [detS] at hz
  exact hz
 rintro ⟨⟩
 dsimp only [detS]
 simp only [putS]
 refine wpRL_chunk 2 (by kernel_rfl) ?_
 simp only [takS, Nat.reduceAdd]
 repeat (first | go_big_quiet_skip | (go_big_quiet_want; go_big_quiet_op; go_big_quiet_on))
 refine wpQuiet_nil ?_
 refine wpRL_nil ?_
 intro wn hbn hE
 have hsz := B.size
 have hzn := hbn.size
 replace B := B.trans (hbn.mono B.size)
 (try replace b1 := b1.below hbn)
 (try replace r4 := r4.below hbn)
 (try replace r5 := r5.below hbn)
 (try replace r6 := r6.below hbn)
 (try replace r7 := r7.below hbn)
 (try replace r8 := r8.below hbn)
 (try replace r9 := r9.below hbn)
 (try replace rs1 := rs1.below hbn)
 (try replace rs2 := rs2.below hbn)
 (try replace rs3 := rs3.below hbn)
 (try replace rs8 := rs8.below hbn)
 (try replace rs9 := rs9.below hbn)
 have n32 := hE 3
 change RS _ _ _ at n32
 have n38 := hE 9
 change RS _ _ _ at n38
 have n44 := hE 15
 change RS _ _ _ at n44
 have n48 := hE 19
 change RS _ _ _ at n48
 have n49 := hE 20
 change RS _ _ _ at n49
 have n55 := hE 26
 change RS _ _ _ at n55
 have n59 := hE 30
 change RS _ _ _ at n59
 have n60 := hE 31
 change RS _ _ _ at n60
 clear hE
 try simp only [List.drop_succ_cons, List.drop_zero]
 refine NoPan.normal ?_
 go_upto_region 9 with fail
 try simp only [gelS]
 try have lx_b1 := b1.lt
 try have lx_r4 := r4.lt
 try have lx_r5 := r5.lt
 try have lx_r6 := r6.lt
 try have lx_r7 := r7.lt
 try have lx_r8 := r8.lt
 try have lx_r9 := r9.lt
 try have lx_rs1 := rs1.lt
 try have lx_rs2 := rs2.lt
 try have lx_rs3 := rs3.lt
 try have lx_rs8 := rs8.lt
 try have lx_rs9 := rs9.lt
 refine wp_region_RL 27 [(2, rasS (AA)), (4, detS ?v2_4), (8, rasS (A2)), (10, detS ?v2_10), (15, rasS (AM)), (17, detS ?v2_17), (22, rasS (AU)), (24, detS ?v2_24)] (by kernel_rfl) (by kernel_rfl) (by kernel_rfl) ?_
 rotate_left 4
 simp only [takS, Nat.reduceAdd]
 refine wpRL_chunk 2 (by kernel_rfl) ?_
 simp only [takS, Nat.reduceAdd]
 repeat (first | go_big_quiet_skip | (go_big_quiet_want; first | (refine quiet_loadAny (t := 34) rfl _ _ _ rfl (fun w hw => run_load_B (ov_B r4 w hw) Tryz.isAgg34 (by kernel_rfl)) (by rfl) ?_; simp only [putS]; go_big_quiet_on) | (refine quiet_loadAny (t := 34) rfl _ _ _ rfl (fun w hw => run_load_B (ov_B r5 w hw) Tryz.isAgg34 (by kernel_rfl)) (by rfl) ?_; simp only [putS]; go_big_quiet_on) | (refine quiet_loadAny (t := 34) rfl _ _ _ rfl (fun w hw => run_load_B (ov_B r6 w hw) Tryz.isAgg34 (by kernel_rfl)) (by rfl) ?_; simp only [putS]; go_big_quiet_on) | (refine quiet_loadAny (t := 34) rfl _ _ _ rfl (fun w hw => run_load_B (ov_B r7 w hw) Tryz.isAgg34 (by kernel_rfl)) (by rfl) ?_; simp only [putS]; go_big_quiet_on) | (refine quiet_loadAny (t := 34) rfl _ _ _ rfl (fun w hw => run_load_B (ov_B r8 w hw) Tryz.isAgg34 (by kernel_rfl)) (by rfl) ?_; simp only [putS]; go_big_quiet_on) | (refine quiet_loadAny (t := 34) rfl _ _ _ rfl (fun w hw => run_load_B (ov_B r9 w hw) Tryz.isAgg34 (by kernel_rfl)) (by rfl) ?_; simp only [putS]; go_big_quiet_on) | (go_big_quiet_op; go_big_quiet_on)))
 refine wpQuiet_nil ?_
 refine wpRL_callB (by rfl) (by first | rfl | simp [Region.wanted, yielded]) ?_ ?_
 ·intro wn hbn hE Kx hKx
  have hsz := B.size
  have hzn := hbn.size
  replace B := B.trans (hbn.mono B.size)
  (try replace b1 := b1.below hbn)
  (try replace r4 := r4.below hbn)
  (try replace r5 := r5.below hbn)
  (try replace r6 := r6.below hbn)
  (try replace r7 := r7.below hbn)
  (try replace r8 := r8.below hbn)
  (try replace r9 := r9.below hbn)
  (try replace rs1 := rs1.below hbn)
  (try replace rs2 := rs2.below hbn)
  (try replace rs3 := rs3.below hbn)
  (try replace rs8 := rs8.below hbn)
  (try replace rs9 := rs9.below hbn)
  refine wp_callF rfl (enters_of Tryz.func13 (by kernel_rfl) rfl) (by simp only [Act.eval, evlS]; rfl) ?_
  refine (P_UnionV _ _ LA LA AA wn rs1 rs1 HMLA.out.t HMLA.out.t HMLA.out.v HMLA.out.v HXAA.out).mono ?_
  rintro e wm ⟨v', rfl, hr, hbm⟩
  obtain ⟨a', c', rfl, _⟩ := hr.len
  exact ⟨_, rfl, hKx (a', c') wm hr hbm⟩
 rintro ⟨a65, c65⟩
 dsimp only [detS, rasS]
 simp only [putS]
 refine wpRL_chunk 1 (by kernel_rfl) ?_
 simp only [takS, Nat.reduceAdd]
 repeat (first | go_big_quiet_skip | (go_big_quiet_want; first | (refine quiet_loadAny (t := 34) rfl _ _ _ rfl (fun w hw => run_load_B (ov_B r4 w hw) Tryz.isAgg34 (by kernel_rfl)) (by rfl) ?_; simp only [putS]; go_big_quiet_on) | (refine quiet_loadAny (t := 34) rfl _ _ _ rfl (fun w hw => run_load_B (ov_B r5 w hw) Tryz.isAgg34 (by kernel_rfl)) (by rfl) ?_; simp only [putS]; go_big_quiet_on) | (refine quiet_loadAny (t := 34) rfl _ _ _ rfl (fun w hw => run_load_B (ov_B r6 w hw) Tryz.isAgg34 (by kernel_rfl)) (by rfl) ?_; simp only [putS]; go_big_quiet_on) | (refine quiet_loadAny (t := 34) rfl _ _ _ rfl (fun w hw => run_load_B (ov_B r7 w hw) Tryz.isAgg34 (by kernel_rfl)) (by rfl) ?_; simp only [putS]; go_big_quiet_on) | (refine quiet_loadAny (t := 34) rfl _ _ _ rfl (fun w hw => run_load_B (ov_B r8 w hw) Tryz.isAgg34 (by kernel_rfl)) (by rfl) ?_; simp only [putS]; go_big_quiet_on) | (refine quiet_loadAny (t := 34) rfl _ _ _ rfl (fun w hw => run_load_B (ov_B r9 w hw) Tryz.isAgg34 (by kernel_rfl)) (by rfl) ?_; simp only [putS]; go_big_quiet_on) | (go_big_quiet_op; go_big_quiet_on)))
 refine wpQuiet_nil ?_
 refine wpRL_callB (by rfl) (by first | rfl | simp [Region.wanted, yielded]) ?_ ?_
 ·intro wn hbn hE Kx hKx
  have hsz := B.size
  have hzn := hbn.size
  replace B := B.trans (hbn.mono B.size)
  (try replace b1 := b1.below hbn)
  (try replace r4 := r4.below hbn)
  (try replace r5 := r5.below hbn)
  (try replace r6 := r6.below hbn)
  (try replace r7 := r7.below hbn)
  (try replace r8 := r8.below hbn)
  (try replace r9 := r9.below hbn)
  (try replace rs1 := rs1.below hbn)
  (try replace rs2 := rs2.below hbn)
  (try replace rs3 := rs3.below hbn)
  (try replace rs8 := rs8.below hbn)
  (try replace rs9 := rs9.below hbn)
  have n65 := hE 2 (by kernel_rfl)
  change RS _ _ _ at n65
  refine wp_callF rfl (enters_of Tryz.func19 (by kernel_rfl) rfl) (by simp only [Act.eval, evlS]; rfl) ?_
  refine (P_EqualT _ _ AA LA wn n65 rs1 HMAA.out.t HMLA.out.t (valid_len HMAA.out.v) (valid_len HMLA.out.v) E5.out).mono ?_
  rintro e wm ⟨rfl, hbm⟩
  refine ⟨_, rfl, ?_⟩
  have hz := hKx () wm trivial hbm
  dsimp only [detS] at hz
  exact hz
 rintro ⟨⟩
 dsimp only [detS]
 simp only [putS]
 refine wpRL_chunk 3 (by kernel_rfl) ?_
 simp only [takS, Nat.reduceAdd]
 repeat (first | go_big_quiet_skip | (go_big_quiet_want; first | (refine quiet_loadAny (t := 34) rfl _ _ _ rfl (fun w hw => run_load_B (ov_B r4 w hw) Tryz.isAgg34 (by kernel_rfl)) (by rfl) ?_; simp only [putS]; go_big_quiet_on) | (refine quiet_loadAny (t := 34) rfl _ _ _ rfl (fun w hw => run_load_B (ov_B r5 w hw) Tryz.isAgg34 (by kernel_rfl)) (by rfl) ?_; simp only [putS]; go_big_quiet_on) | (refine quiet_loadAny (t := 34) rfl _ _ _ rfl (fun w hw => run_load_B (ov_B r6 w hw) Tryz.isAgg34 (by kernel_rfl)) (by rfl) ?_; simp only [putS]; go_big_quiet_on) | (refine quiet_loadAny (t := 34) rfl _ _ _ rfl (fun w hw => run_load_B (ov_B r7 w hw) Tryz.isAgg34 (by kernel_rfl)) (by rfl) ?_; simp only [putS]; go_big_quiet_on) | (refine quiet_loadAny (t := 34) rfl _ _ _ rfl (fun w hw => run_load_B (ov_B r8 w hw) Tryz.isAgg34 (by kernel_rfl)) (by rfl) ?_; simp only [putS]; go_big_quiet_on) | (refine quiet_loadAny (t := 34) rfl _ _ _ rfl (fun w hw => run_load_B (ov_B r9 w hw) Tryz.isAgg34 (by kernel_rfl)) (by rfl) ?_; simp only [putS]; go_big_quiet_on) | (go_big_quiet_op; go_big_quiet_on)))
 refine wpQuiet_nil ?_
 refine wpRL_callB (by rfl) ?hw2_8 ?_ ?_
 case hw2_8 => kernel_rfl
 ·intro wn hbn hE Kx hKx
  have hsz := B.size
  have hzn := hbn.size
  replace B := B.trans (hbn.mono B.size)
  (try replace b1 := b1.below hbn)
  (try replace r4 := r4.below hbn)
  (try replace r5 := r5.below hbn)
  (try replace r6 := r6.below hbn)
  (try replace r7 := r7.below hbn)
  (try replace r8 := r8.below hbn)
  (try replace r9 := r9.below hbn)
  (try replace rs1 := rs1.below hbn)
  (try replace rs2 := rs2.below hbn)
  (try replace rs3 := rs3.below hbn)
  (try replace rs8 := rs8.below hbn)
  (try replace rs9 := rs9.below hbn)
  refine wp_callF rfl (enters_of Tryz.func15 (by kernel_rfl) rfl) (by simp only [Act.eval, evlS]; rfl) ?_
  refine (P_CommonV _ _ LA LA A2 wn rs1 rs1 HMLA.out.t HMLA.out.t HMLA.out.v HMLA.out.v HXA2.out).mono ?_
  rintro e wm ⟨v', rfl, hr, hbm⟩
  obtain ⟨a', c', rfl, _⟩ := hr.len
  exact ⟨_, rfl, hKx (a', c') wm hr hbm⟩
 rintro ⟨a71, c71⟩
 dsimp only [detS, rasS]
 simp only [putS]
 refine wpRL_chunk 1 (by kernel_rfl) ?_
 simp only [takS, Nat.reduceAdd]
 repeat (first | go_big_quiet_skip | (go_big_quiet_want; first | (refine quiet_loadAny (t := 34) rfl _ _ _ rfl (fun w hw => run_load_B (ov_B r4 w hw) Tryz.isAgg34 (by kernel_rfl)) (by rfl) ?_; simp only [putS]; go_big_quiet_on) | (refine quiet_loadAny (t := 34) rfl _ _ _ rfl (fun w hw => run_load_B (ov_B r5 w hw) Tryz.isAgg34 (by kernel_rfl)) (by rfl) ?_; simp only [putS]; go_big_quiet_on) | (refine quiet_loadAny (t := 34) rfl _ _ _ rfl (fun w hw => run_load_B (ov_B r6 w hw) Tryz.isAgg34 (by kernel_rfl)) (by rfl) ?_; simp only [putS]; go_big_quiet_on) | (refine quiet_loadAny (t := 34) rfl _ _ _ rfl (fun w hw => run_load_B (ov_B r7 w hw) Tryz.isAgg34 (by kernel_rfl)) (by rfl) ?_; simp only [putS]; go_big_quiet_on) | (refine quiet_loadAny (t := 34) rfl _ _ _ rfl (fun w hw => run_load_B (ov_B r8 w hw) Tryz.isAgg34 (by kernel_rfl)) (by rfl) ?_; simp only [putS]; go_big_quiet_on) | (refine quiet_loadAny (t := 34) rfl _ _ _ rfl (fun w hw => run_load_B (ov_B r9 w hw) Tryz.isAgg34 (by kernel_rfl)) (by rfl) ?_; simp only [putS]; go_big_quiet_on) | (go_big_quiet_op; go_big_quiet_on)))
 refine wpQuiet_nil ?_
 refine wpRL_callB (by rfl) ?hw2_10 ?_ ?_
 case hw2_10 => kernel_rfl
 ·intro wn hbn hE Kx hKx
  have hsz := B.size
  have hzn := hbn.size
  replace B := B.trans (hbn.mono B.size)
  (try replace b1 := b1.below hbn)
  (try replace r4 := r4.below hbn)
  (try replace r5 := r5.below hbn)
  (try replace r6 := r6.below hbn)
  (try replace r7 := r7.below hbn)
  (try replace r8 := r8.below hbn)
  (try replace r9 := r9.below hbn)
  (try replace rs1 := rs1.below hbn)
  (try replace rs2 := rs2.below hbn)
  (try replace rs3 := rs3.below hbn)
  (try replace rs8 := rs8.below hbn)
  (try replace rs9 := rs9.below hbn)
  have n71 := hE 8 (by kernel_rfl)
  change RS _ _ _ at n71
  refine wp_callF rfl (enters_of Tryz.func19 (by kernel_rfl) rfl) (by simp only [Act.eval, evlS]; rfl) ?_
  refine (P_EqualT _ _ A2 LA wn n71 rs1 HMA2.out.t HMLA.out.t (valid_len HMA2.out.v) (valid_len HMLA.out.v) E6.out).mono ?_
  rintro e wm ⟨rfl, hbm⟩
  refine ⟨_, rfl, ?_⟩
  have hz := hKx () wm trivial hbm
  dsimp only [detS] at hz
  exact hz
 rintro ⟨⟩
 dsimp only [detS]
 simp only [putS]
 refine wpRL_chunk 4 (by kernel_rfl) ?_
 simp only [takS, Nat.reduceAdd]
 repeat (first | go_big_quiet_skip | (go_big_quiet_want; first | (refine quiet_loadAny (t := 34) rfl _ _ _ rfl (fun w hw => run_load_B (ov_B r4 w hw) Tryz.isAgg34 (by kernel_rfl)) (by rfl) ?_; simp only [putS]; go_big_quiet_on) | (refine quiet_loadAny (t := 34) rfl _ _ _ rfl (fun w hw => run_load_B (ov_B r5 w hw) Tryz.isAgg34 (by kernel_rfl)) (by rfl) ?_; simp only [putS]; go_big_quiet_on) | (refine quiet_loadAny (t := 34) rfl _ _ _ rfl (fun w hw => run_load_B (ov_B r6 w hw) Tryz.isAgg34 (by kernel_rfl)) (by rfl) ?_; simp only [putS]; go_big_quiet_on) | (refine quiet_loadAny (t := 34) rfl _ _ _ rfl (fun w hw => run_load_B (ov_B r7 w hw) Tryz.isAgg34 (by kernel_rfl)) (by rfl) ?_; simp only [putS]; go_big_quiet_on) | (refine quiet_loadAny (t := 34) rfl _ _ _ rfl (fun w hw => run_load_B (ov_B r8 w hw) Tryz.isAgg34 (by kernel_rfl)) (by rfl) ?_; simp only [putS]; go_big_quiet_on) | (refine quiet_loadAny (t := 34) rfl _ _ _ rfl (fun w hw => run_load_B (ov_B r9 w hw) Tryz.isAgg34 (by kernel_rfl)) (by rfl) ?_; simp only [putS]; go_big_quiet_on) | (go_big_quiet_op; go_big_quiet_on)))
 refine wpQuiet_nil ?_
 refine wpRL_callB (by rfl) ?hw2_15 ?_ ?_
 case hw2_15 => kernel_rfl
 ·intro wn hbn hE Kx hKx
  have hsz := B.size
  have hzn := hbn.size
  replace B := B.trans (hbn.mono B.size)
  (try replace b1 := b1.below hbn)
  (try replace r4 := r4.below hbn)
  (try replace r5 := r5.below hbn)
  (try replace r6 := r6.below hbn)
  (try replace r7 := r7.below hbn)
  (try replace r8 := r8.below hbn)
  (try replace r9 := r9.below hbn)
  (try replace rs1 := rs1.below hbn)
  (try replace rs2 := rs2.below hbn)
  (try replace rs3 := rs3.below hbn)
  (try replace rs8 := rs8.below hbn)
  (try replace rs9 := rs9.below hbn)
  refine wp_callF rfl (enters_of Tryz.func13 (by kernel_rfl) rfl) (by simp only [Act.eval, evlS]; rfl) ?_
  refine (P_UnionV _ _ LA M AM wn rs1 rs9 HMLA.out.t HMM.out.t HMLA.out.v HMM.out.v HXAM.out).mono ?_
  rintro e wm ⟨v', rfl, hr, hbm⟩
  obtain ⟨a', c', rfl, _⟩ := hr.len
  exact ⟨_, rfl, hKx (a', c') wm hr hbm⟩
 rintro ⟨a78, c78⟩
 dsimp only [detS, rasS]
 simp only [putS]
 refine wpRL_chunk 1 (by kernel_rfl) ?_
 simp only [takS, Nat.reduceAdd]
 repeat (first | go_big_quiet_skip | (go_big_quiet_want; first | (refine quiet_loadAny (t := 34) rfl _ _ _ rfl (fun w hw => run_load_B (ov_B r4 w hw) Tryz.isAgg34 (by kernel_rfl)) (by rfl) ?_; simp only [putS]; go_big_quiet_on) | (refine quiet_loadAny (t := 34) rfl _ _ _ rfl (fun w hw => run_load_B (ov_B r5 w hw) Tryz.isAgg34 (by kernel_rfl)) (by rfl) ?_; simp only [putS]; go_big_quiet_on) | (refine quiet_loadAny (t := 34) rfl _ _ _ rfl (fun w hw => run_load_B (ov_B r6 w hw) Tryz.isAgg34 (by kernel_rfl)) (by rfl) ?_; simp only [putS]; go_big_quiet_on) | (refine quiet_loadAny (t := 34) rfl _ _ _ rfl (fun w hw => run_load_B (ov_B r7 w hw) Tryz.isAgg34 (by kernel_rfl)) (by rfl) ?_; simp only [putS]; go_big_quiet_on) | (refine quiet_loadAny (t := 34) rfl _ _ _ rfl (fun w hw => run_load_B (ov_B r8 w hw) Tryz.isAgg34 (by kernel_rfl)) (by rfl) ?_; simp only [putS]; go_big_quiet_on) | (refine quiet_loadAny (t := 34) rfl _ _ _ rfl (fun w hw => run_load_B (ov_B r9 w hw) Tryz.isAgg34 (by kernel_rfl)) (by rfl) ?_; simp only [putS]; go_big_quiet_on) | (go_big_quiet_op; go_big_quiet_on)))
 refine wpQuiet_nil ?_
 refine wpRL_callB (by rfl) ?hw2_17 ?_ ?_
 case hw2_17 => kernel_rfl
 ·intro wn hbn hE Kx hKx
  have hsz := B.size
  have hzn := hbn.size
  replace B := B.trans (hbn.mono B.size)
  (try replace b1 := b1.below hbn)
  (try replace r4 := r4.below hbn)
  (try replace r5 := r5.below hbn)
  (try replace r6 := r6.below hbn)
  (try replace r7 := r7.below hbn)
  (try replace r8 := r8.below hbn)
  (try replace r9 := r9.below hbn)
  (try replace rs1 := rs1.below hbn)
  (try replace rs2 := rs2.below hbn)
  (try replace rs3 := rs3.below hbn)
  (try replace rs8 := rs8.below hbn)
  (try replace rs9 := rs9.below hbn)
  have n78 := hE 15 (by kernel_rfl)
  change RS _ _ _ at n78
  refine wp_callF rfl (enters_of Tryz.func19 (by kernel_rfl) rfl) (by simp only [Act.eval, evlS]; rfl) ?_
  refine (P_EqualT _ _ AM LA wn n78 rs1 HMAM.out.t HMLA.out.t (valid_len HMAM.out.v) (valid_len HMLA.out.v) E7.out).mono ?_
  rintro e wm ⟨rfl, hbm⟩
  refine ⟨_, rfl, ?_⟩
  have hz := hKx () wm trivial hbm
  dsimp only [detS] at hz
  exact hz
 rintro ⟨⟩
 dsimp only [detS]
 simp only [putS]
 refine wpRL_chunk 4 (by kernel_rfl) ?_
 simp only [takS, Nat.reduceAdd]
 repeat (first | go_big_quiet_skip | (go_big_quiet_want; first | (refine quiet_loadAny (t := 34) rfl _ _ _ rfl (fun w hw => run_load_B (ov_B r4 w hw) Tryz.isAgg34 (by kernel_rfl)) (by rfl) ?_; simp only [putS]; go_big_quiet_on) | (refine quiet_loadAny (t := 34) rfl _ _ _ rfl (fun w hw => run_load_B (ov_B r5 w hw) Tryz.isAgg34 (by kernel_rfl)) (by rfl) ?_; simp only [putS]; go_big_quiet_on) | (refine quiet_loadAny (t := 34) rfl _ _ _ rfl (fun w hw => run_load_B (ov_B r6 w hw) Tryz.isAgg34 (by kernel_rfl)) (by rfl) ?_; simp only [putS]; go_big_quiet_on) | (refine quiet_loadAny (t := 34) rfl _ _ _ rfl (fun w hw => run_load_B (ov_B r7 w hw) Tryz.isAgg34 (by kernel_rfl)) (by rfl) ?_; simp only [putS]; go_big_quiet_on) | (refine quiet_loadAny (t := 34) rfl _ _ _ rfl (fun w hw => run_load_B (ov_B r8 w hw) Tryz.isAgg34 (by kernel_rfl)) (by rfl) ?_; simp only [putS]; go_big_quiet_on) | (refine quiet_loadAny (t := 34) rfl _ _ _ rfl (fun w hw => run_load_B (ov_B r9 w hw) Tryz.isAgg34 (by kernel_rfl)) (by rfl) ?_; simp only [putS]; go_big_quiet_on) | (go_big_quiet_op; go_big_quiet_on)))
 refine wpQuiet_nil ?_
 refine wpRL_callB (by rfl) ?hw2_22 ?_ ?_
 case hw2_22 => kernel_rfl
 ·intro wn hbn hE Kx hKx
  have hsz := B.size
  have hzn := hbn.size
  replace B := B.trans (hbn.mono B.size)
  (try replace b1 := b1.below hbn)
  (try replace r4 := r4.below hbn)
  (try replace r5 := r5.below hbn)
  (try replace r6 := r6.below hbn)
  (try replace r7 := r7.below hbn)
  (try replace r8 := r8.below hbn)
  (try replace r9 := r9.below hbn)
  (try replace rs1 := rs1.below hbn)
  (try replace rs2 := rs2.below hbn)
  (try replace rs3 := rs3.below hbn)
  (try replace rs8 := rs8.below hbn)
  (try replace rs9 := rs9.below hbn)
  refine wp_callF rfl (enters_of Tryz.func15 (by kernel_rfl) rfl) (by simp only [Act.eval, evlS]; rfl) ?_
  refine (P_CommonV _ _ LA U AU wn rs1 rs8 HMLA.out.t HMU.out.t HMLA.out.v HMU.out.v HXAU.out).mono ?_
  rintro e wm ⟨v', rfl, hr, hbm⟩
  obtain ⟨a', c', rfl, _⟩ := hr.len
  exact ⟨_, rfl, hKx (a', c') wm hr hbm⟩
 rintro ⟨a85, c85⟩
 dsimp only [detS, rasS]
 simp only [putS]
 refine wpRL_chunk 1 (by kernel_rfl) ?_
 simp only [takS, Nat.reduceAdd]
 repeat (first | go_big_quiet_skip | (go_big_quiet_want; first | (refine quiet_loadAny (t := 34) rfl _ _ _ rfl (fun w hw => run_load_B (ov_B r4 w hw) Tryz.isAgg34 (by kernel_rfl)) (by rfl) ?_; simp only [putS]; go_big_quiet_on) | (refine quiet_loadAny (t := 34) rfl _ _ _ rfl (fun w hw => run_load_B (ov_B r5 w hw) Tryz.isAgg34 (by kernel_rfl)) (by rfl) ?_; simp only [putS]; go_big_quiet_on) | (refine quiet_loadAny (t := 34) rfl _ _ _ rfl (fun w hw => run_load_B (ov_B r6 w hw) Tryz.isAgg34 (by kernel_rfl)) (by rfl) ?_; simp only [putS]; go_big_quiet_on) | (refine quiet_loadAny (t := 34) rfl _ _ _ rfl (fun w hw => run_load_B (ov_B r7 w hw) Tryz.isAgg34 (by kernel_rfl)) (by rfl) ?_; simp only [putS]; go_big_quiet_on) | (refine quiet_loadAny (t := 34) rfl _ _ _ rfl (fun w hw => run_load_B (ov_B r8 w hw) Tryz.isAgg34 (by kernel_rfl)) (by rfl) ?_; simp only [putS]; go_big_quiet_on) | (refine quiet_loadAny (t := 34) rfl _ _ _ rfl (fun w hw => run_load_B (ov_B r9 w hw) Tryz.isAgg34 (by kernel_rfl)) (by rfl) ?_; simp only [putS]; go_big_quiet_on) | (go_big_quiet_op; go_big_quiet_on)))
 refine wpQuiet_nil ?_
 refine wpRL_callB (by rfl) ?hw2_24 ?_ ?_
 case hw2_24 => kernel_rfl
 ·intro wn hbn hE Kx hKx
  have hsz := B.size
  have hzn := hbn.size
  replace B := B.trans (hbn.mono B.size)
  (try replace b1 := b1.below hbn)
  (try replace r4 := r4.below hbn)
  (try replace r5 := r5.below hbn)
  (try replace r6 := r6.below hbn)
  (try replace r7 := r7.below hbn)
  (try replace r8 := r8.below hbn)
  (try replace r9 := r9.below hbn)
  (try replace rs1 := rs1.below hbn)
  (try replace rs2 := rs2.below hbn)
  (try replace rs3 := rs3.below hbn)
  (try replace rs8 := rs8.below hbn)
  (try replace rs9 := rs9.below hbn)
  have n85 := hE 22 (by kernel_rfl)
  change RS _ _ _ at n85
  refine wp_callF rfl (enters_of Tryz.func19 (by kernel_rfl) rfl) (by simp only [Act.eval, evlS]; rfl) ?_
  refine (P_EqualT _ _ AU LA wn n85 rs1 HMAU.out.t HMLA.out.t (valid_len HMAU.out.v) (valid_len HMLA.out.v) E8.out).mono ?_
  rintro e wm ⟨rfl, hbm⟩
  refine ⟨_, rfl, ?_⟩
  have hz := hKx () wm trivial hbm
  dsimp only [detS] at hz
  exact hz
 rintro ⟨⟩
 dsimp only [detS]
 simp only [putS]
 refine wpRL_chunk 2 (by kernel_rfl) ?_
 simp only [takS, Nat.reduceAdd]
 repeat (first | go_big_quiet_skip | (go_big_quiet_want; go_big_quiet_op; go_big_quiet_on))
 refine wpQuiet_nil ?_
 refine wpRL_nil ?_
 intro wn hbn hE
 have hsz := B.size
 have hzn := hbn.size
 replace B := B.trans (hbn.mono B.size)
 (try replace b1 := b1.below hbn)
 (try replace r4 := r4.below hbn)
 (try replace r5 := r5.below hbn)
 (try replace r6 := r6.below hbn)
 (try replace r7 := r7.below hbn)
 (try replace r8 := r8.below hbn)
 (try replace r9 := r9.below hbn)
 (try replace rs1 := rs1.below hbn)
 (try replace rs2 := rs2.below hbn)
 (try replace rs3 := rs3.below hbn)
 (try replace rs8 := rs8.below hbn)
 (try replace rs9 := rs9.below hbn)
 have n65 := hE 2
 change RS _ _ _ at n65
 have n71 := hE 8
 change RS _ _ _ at n71
 have n78 := hE 15
 change RS _ _ _ at n78
 have n85 := hE 22
 change RS _ _ _ at n85
 clear hE
 try simp only [List.drop_succ_cons, List.drop_zero]
 refine NoPan.normal ?_
 go_upto_region 10 with fail
 try simp only [gelS]
 try have lx_b1 := b1.lt
 try have lx_r4 := r4.lt
 try have lx_r5 := r5.lt
 try have lx_r6 := r6.lt
 try have lx_r7 := r7.lt
 try have lx_r8 := r8.lt
 try have lx_r9 := r9.lt
 try have lx_rs1 := rs1.lt
 try have lx_rs2 := rs2.lt
 try have lx_rs3 := rs3.lt
 try have lx_rs8 := rs8.lt
 try have lx_rs9 := rs9.lt
 refine wp_region_RL 27 [(2, rasS (AN)), (4, detS ?v3_4), (8, rasS (CN)), (10, detS ?v3_10), (15, rasS (SN)), (17, detS ?v3_17), (22, rasS (NS0)), (24, detS ?v3_24)] (by kernel_rfl) (by kernel_rfl) (by kernel_rfl) ?_
 rotate_left 4
 simp only [takS, Nat.reduceAdd]
 refine wpRL_chunk 2 (by kernel_rfl) ?_
 simp only [takS, Nat.reduceAdd]
 repeat (first | go_big_quiet_skip | (go_big_quiet_want; first | (refine quiet_loadAny (t := 34) rfl _ _ _ rfl (fun w hw => run_load_B (ov_B r4 w hw) Tryz.isAgg34 (by kernel_rfl)) (by rfl) ?_; simp only [putS]; go_big_quiet_on) | (refine quiet_loadAny (t := 34) rfl _ _ _ rfl (fun w hw => run_load_B (ov_B r5 w hw) Tryz.isAgg34 (by kernel_rfl)) (by rfl) ?_; simp only [putS]; go_big_quiet_on) | (refine quiet_loadAny (t := 34) rfl _ _ _ rfl (fun w hw => run_load_B (ov_B r6 w hw) Tryz.isAgg34 (by kernel_rfl)) (by rfl) ?_; simp only [putS]; go_big_quiet_on) | (refine quiet_loadAny (t := 34) rfl _ _ _ rfl (fun w hw => run_load_B (ov_B r7 w hw) Tryz.isAgg34 (by kernel_rfl)) (by rfl) ?_; simp only [putS]; go_big_quiet_on) | (refine quiet_loadAny (t := 34) rfl _ _ _ rfl (fun w hw => run_load_B (ov_B r8 w hw) Tryz.isAgg34 (by kernel_rfl)) (by rfl) ?_; simp only [putS]; go_big_quiet_on) | (refine quiet_loadAny (t := 34) rfl _ _ _ rfl (fun w hw => run_load_B (ov_B r9 w hw) Tryz.isAgg34 (by kernel_rfl)) (by rfl) ?_; simp only [putS]; go_big_quiet_on) | (go_big_quiet_op; go_big_quiet_on)))
 refine wpQuiet_nil ?_
 refine wpRL_callB (by rfl) (by first | rfl | simp [Region.wanted, yielded]) ?_ ?_
 ·intro wn hbn hE Kx hKx
  have hsz := B.size
  have hzn := hbn.size
  replace B := B.trans (hbn.mono B.size)
  (try replace r4 := r4.below hbn)
  (try replace r5 := r5.below hbn)
  (try replace r6 := r6.below hbn)
  (try replace r7 := r7.below hbn)
  (try replace r8 := r8.below hbn)
  (try replace r9 := r9.below hbn)
  (try replace rs1 := rs1.below hbn)
  refine wp_callF rfl (enters_of Tryz.func13 (by kernel_rfl) rfl) (by simp only [Act.eval, evlS]; rfl) ?_
  refine (P_UnionV _ _ LA [] AN wn rs1 (RS.nil wn) HMLA.out.t HMn.out.t HMLA.out.v HMn.out.v HXAN.out).mono ?_
  rintro e wm ⟨v', rfl, hr, hbm⟩
  obtain ⟨a', c', rfl, _⟩ := hr.len
  exact ⟨_, rfl, hKx (a', c') wm hr hbm⟩
 rintro ⟨a91, c91⟩
 dsimp only [detS, rasS]
 simp only [putS]
 refine wpRL_chunk 1 (by kernel_rfl) ?_
 simp only [takS, Nat.reduceAdd]
 repeat (first | go_big_quiet_skip | (go_big_quiet_want; first | (refine quiet_loadAny (t := 34) rfl _ _ _ rfl (fun w hw => run_load_B (ov_B r4 w hw) Tryz.isAgg34 (by kernel_rfl)) (by rfl) ?_; simp only [putS]; go_big_quiet_on) | (refine quiet_loadAny (t := 34) rfl _ _ _ rfl (fun w hw => run_load_B (ov_B r5 w hw) Tryz.isAgg34 (by kernel_rfl)) (by rfl) ?_; simp only [putS]; go_big_quiet_on) | (refine quiet_loadAny (t := 34) rfl _ _ _ rfl (fun w hw => run_load_B (ov_B r6 w hw) Tryz.isAgg34 (by kernel_rfl)) (by rfl) ?_; simp only [putS]; go_big_quiet_on) | (refine quiet_loadAny (t := 34) rfl _ _ _ rfl (fun w hw => run_load_B (ov_B r7 w hw) Tryz.isAgg34 (by kernel_rfl)) (by rfl) ?_; simp only [putS]; go_big_quiet_on) | (refine quiet_loadAny (t := 34) rfl _ _ _ rfl (fun w hw => run_load_B (ov_B r8 w hw) Tryz.isAgg34 (by kernel_rfl)) (by rfl) ?_; simp only [putS]; go_big_quiet_on) | (refine quiet_loadAny (t := 34) rfl _ _ _ rfl (fun w hw => run_load_B (ov_B r9 w hw) Tryz.isAgg34 (by kernel_rfl)) (by rfl) ?_; simp only [putS]; go_big_quiet_on) | (go_big_quiet_op; go_big_quiet_on)))
 refine wpQuiet_nil ?_
 refine wpRL_callB (by rfl) (by first | rfl | simp [Region.wanted, yielded]) ?_ ?_
 ·intro wn hbn hE Kx hKx
  have hsz := B.size
  have hzn := hbn.size
  replace B := B.trans (hbn.mono B.size)
  (try replace r4 := r4.below hbn)
  (try replace r5 := r5.below hbn)
  (try replace r6 := r6.below hbn)
  (try replace r7 := r7.below hbn)
  (try replace r8 := r8.below hbn)
  (try replace r9 := r9.below hbn)
  (try replace rs1 := rs1.below hbn)
  have n91 := hE 2 (by kernel_rfl)
  change RS _ _ _ at n91
  refine wp_callF rfl (enters_of Tryz.func19 (by kernel_rfl) rfl) (by simp only [Act.eval, evlS]; rfl) ?_
  refine (P_EqualT _ _ AN LA wn n91 rs1 HMAN.out.t HMLA.out.t (valid_len HMAN.out.v) (valid_len HMLA.out.v) E9.out).mono ?_
  rintro e wm ⟨rfl, hbm⟩
  refine ⟨_, rfl, ?_⟩
  have hz := hKx () wm trivial hbm
  dsimp only [detS] at hz
  exact hz
 rintro ⟨⟩
 dsimp only [detS]
 simp only [putS]
 refine wpRL_chunk 3 (by kernel_rfl) ?_
 simp only [takS, Nat.reduceAdd]
 repeat (first | go_big_quiet_skip | (go_big_quiet_want; first | (refine quiet_loadAny (t := 34) rfl _ _ _ rfl (fun w hw => run_load_B (ov_B r4 w hw) Tryz.isAgg34 (by kernel_rfl)) (by rfl) ?_; simp only [putS]; go_big_quiet_on) | (refine quiet_loadAny (t := 34) rfl _ _ _ rfl (fun w hw => run_load_B (ov_B r5 w hw) Tryz.isAgg34 (by kernel_rfl)) (by rfl) ?_; simp only [putS]; go_big_quiet_on) | (refine quiet_loadAny (t := 34) rfl _ _ _ rfl (fun w hw => run_load_B (ov_B r6 w hw) Tryz.isAgg34 (by kernel_rfl)) (by rfl) ?_; simp only [putS]; go_big_quiet_on) | (refine quiet_loadAny (t := 34) rfl _ _ _ rfl (fun w hw => run_load_B (ov_B r7 w hw) Tryz.isAgg34 (by kernel_rfl)) (by rfl) ?_; simp only [putS]; go_big_quiet_on) | (refine quiet_loadAny (t := 34) rfl _ _ _ rfl (fun w hw => run_load_B (ov_B r8 w hw) Tryz.isAgg34 (by kernel_rfl)) (by rfl) ?_; simp only [putS]; go_big_quiet_on) | (refine quiet_loadAny (t := 34) rfl _ _ _ rfl (fun w hw => run_load_B (ov_B r9 w hw) Tryz.isAgg34 (by kernel_rfl)) (by rfl) ?_; simp only [putS]; go_big_quiet_on) | (go_big_quiet_op; go_big_quiet_on)))
 refine wpQuiet_nil ?_
 refine wpRL_callB (by rfl) ?hw3_8 ?_ ?_
 case hw3_8 => kernel_rfl
 ·intro wn hbn hE Kx hKx
  have hsz := B.size
  have hzn := hbn.size
  replace B := B.trans (hbn.mono B.size)
  (try replace r4 := r4.below hbn)
  (try replace r5 := r5.below hbn)
  (try replace r6 := r6.below hbn)
  (try replace r7 := r7.below hbn)
  (try replace r8 := r8.below hbn)
  (try replace r9 := r9.below hbn)
  (try replace rs1 := rs1.below hbn)
  refine wp_callF rfl (enters_of Tryz.func15 (by kernel_rfl) rfl) (by simp only [Act.eval, evlS]; rfl) ?_
  refine (P_CommonV _ _ LA [] CN wn rs1 (RS.nil wn) HMLA.out.t HMn.out.t HMLA.out.v HMn.out.v HXCN.out).mono ?_
  rintro e wm ⟨v', rfl, hr, hbm⟩
  obtain ⟨a', c', rfl, _⟩ := hr.len
  exact ⟨_, rfl, hKx (a', c') wm hr hbm⟩
 rintro ⟨a97, c97⟩
 dsimp only [detS, rasS]
 simp only [putS]
 refine wpRL_chunk 1 (by kernel_rfl) ?_
 simp only [takS, Nat.reduceAdd]
 repeat (first | go_big_quiet_skip | (go_big_quiet_want; first | (refine quiet_loadAny (t := 34) rfl _ _ _ rfl (fun w hw => run_load_B (ov_B r4 w hw) Tryz.isAgg34 (by kernel_rfl)) (by rfl) ?_; simp only [putS]; go_big_quiet_on) | (refine quiet_loadAny (t := 34) rfl _ _ _ rfl (fun w hw => run_load_B (ov_B r5 w hw) Tryz.isAgg34 (by kernel_rfl)) (by rfl) ?_; simp only [putS]; go_big_quiet_on) | (refine quiet_loadAny (t := 34) rfl _ _ _ rfl (fun w hw => run_load_B (ov_B r6 w hw) Tryz.isAgg34 (by kernel_rfl)) (by rfl) ?_; simp only [putS]; go_big_quiet_on) | (refine quiet_loadAny (t := 34) rfl _ _ _ rfl (fun w hw => run_load_B (ov_B r7 w hw) Tryz.isAgg34 (by kernel_rfl)) (by rfl) ?_; simp only [putS]; go_big_quiet_on) | (refine quiet_loadAny (t := 34) rfl _ _ _ rfl (fun w hw => run_load_B (ov_B r8 w hw) Tryz.isAgg34 (by kernel_rfl)) (by rfl) ?_; simp only [putS]; go_big_quiet_on) | (refine quiet_loadAny (t := 34) rfl _ _ _ rfl (fun w hw => run_load_B (ov_B r9 w hw) Tryz.isAgg34 (by kernel_rfl)) (by rfl) ?_; simp only [putS]; go_big_quiet_on) | (go_big_quiet_op; go_big_quiet_on)))
 refine wpQuiet_nil ?_
 refine wpRL_callB (by rfl) ?hw3_10 ?_ ?_
 case hw3_10 => kernel_rfl
 ·intro wn hbn hE Kx hKx
  have hsz := B.size
  have hzn := hbn.size
  replace B := B.trans (hbn.mono B.size)
  (try replace r4 := r4.below hbn)
  (try replace r5 := r5.below hbn)
  (try replace r6 := r6.below hbn)
  (try replace r7 := r7.below hbn)
  (try replace r8 := r8.below hbn)
  (try replace r9 := r9.below hbn)
  (try replace rs1 := rs1.below hbn)
  have n97 := hE 8 (by kernel_rfl)
  change RS _ _ _ at n97
  refine wp_callF rfl (enters_of Tryz.func19 (by kernel_rfl) rfl) (by simp only [Act.eval, evlS]; rfl) ?_
  refine (P_EqualT _ _ CN [] wn n97 (RS.nil wn) HMCN.out.t HMn.out.t (valid_len HMCN.out.v) (valid_len HMn.out.v) E10.out).mono ?_
  rintro e wm ⟨rfl, hbm⟩
  refine ⟨_, rfl, ?_⟩
  have hz := hKx () wm trivial hbm
  dsimp only [detS] at hz
  exact hz
 rintro ⟨⟩
 dsimp only [detS]
 simp only [putS]
 refine wpRL_chunk 4 (by kernel_rfl) ?_
 simp only [takS, Nat.reduceAdd]
 repeat (first | go_big_quiet_skip | (go_big_quiet_want; first | (refine quiet_loadAny (t := 34) rfl _ _ _ rfl (fun w hw => run_load_B (ov_B r4 w hw) Tryz.isAgg34 (by kernel_rfl)) (by rfl) ?_; simp only [putS]; go_big_quiet_on) | (refine quiet_loadAny (t := 34) rfl _ _ _ rfl (fun w hw => run_load_B (ov_B r5 w hw) Tryz.isAgg34 (by kernel_rfl)) (by rfl) ?_; simp only [putS]; go_big_quiet_on) | (refine quiet_loadAny (t := 34) rfl _ _ _ rfl (fun w hw => run_load_B (ov_B r6 w hw) Tryz.isAgg34 (by kernel_rfl)) (by rfl) ?_; simp only [putS]; go_big_quiet_on) | (refine quiet_loadAny (t := 34) rfl _ _ _ rfl (fun w hw => run_load_B (ov_B r7 w hw) Tryz.isAgg34 (by kernel_rfl)) (by rfl) ?_; simp only [putS]; go_big_quiet_on) | (refine quiet_loadAny (t := 34) rfl _ _ _ rfl (fun w hw => run_load_B (ov_B r8 w hw) Tryz.isAgg34 (by kernel_rfl)) (by rfl) ?_; simp only [putS]; go_big_quiet_on) | (refine quiet_loadAny (t := 34) rfl _ _ _ rfl (fun w hw => run_load_B (ov_B r9 w hw) Tryz.isAgg34 (by kernel_rfl)) (by rfl) ?_; simp only [putS]; go_big_quiet_on) | (go_big_quiet_op; go_big_quiet_on)))
 refine wpQuiet_nil ?_
 refine wpRL_callB (by rfl) ?hw3_15 ?_ ?_
 case hw3_15 => kernel_rfl
 ·intro wn hbn hE Kx hKx
  have hsz := B.size
  have hzn := hbn.size
  replace B := B.trans (hbn.mono B.size)
  (try replace r4 := r4.below hbn)
  (try replace r5 := r5.below hbn)
  (try replace r6 := r6.below hbn)
  (try replace r7 := r7.below hbn)
  (try replace r8 := r8.below hbn)
  (try replace r9 := r9.below hbn)
  (try replace rs1 := rs1.below hbn)
  refine wp_callF rfl (enters_of Tryz.func16 (by kernel_rfl) rfl) (by simp only [Act.eval, evlS]; rfl) ?_
  refine (P_MinusV _ _ LA [] SN wn rs1 (RS.nil wn) HMLA.out.t HMn.out.t HMLA.out.v HMn.out.v HXSN.out).mono ?_
  rintro e wm ⟨v', rfl, hr, hbm⟩
  obtain ⟨a', c', rfl, _⟩ := hr.len
  exact ⟨_, rfl, hKx (a', c') wm hr hbm⟩
 rintro ⟨a104, c104⟩
 dsimp only [detS, rasS]
 simp only [putS]
 refine wpRL_chunk 1 (by kernel_rfl) ?_
 simp only [takS, Nat.reduceAdd]
 repeat (first | go_big_quiet_skip | (go_big_quiet_want; first | (refine quiet_loadAny (t := 34) rfl _ _ _ rfl (fun w hw => run_load_B (ov_B r4 w hw) Tryz.isAgg34 (by kernel_rfl)) (by rfl) ?_; simp only [putS]; go_big_quiet_on) | (refine quiet_loadAny (t := 34) rfl _ _ _ rfl (fun w hw => run_load_B (ov_B r5 w hw) Tryz.isAgg34 (by kernel_rfl)) (by rfl) ?_; simp only [putS]; go_big_quiet_on) | (refine quiet_loadAny (t := 34) rfl _ _ _ rfl (fun w hw => run_load_B (ov_B r6 w hw) Tryz.isAgg34 (by kernel_rfl)) (by rfl) ?_; simp only [putS]; go_big_quiet_on) | (refine quiet_loadAny (t := 34) rfl _ _ _ rfl (fun w hw => run_load_B (ov_B r7 w hw) Tryz.isAgg34 (by kernel_rfl)) (by rfl) ?_; simp only [putS]; go_big_quiet_on) | (refine quiet_loadAny (t := 34) rfl _ _ _ rfl (fun w hw => run_load_B (ov_B r8 w hw) Tryz.isAgg34 (by kernel_rfl)) (by rfl) ?_; simp only [putS]; go_big_quiet_on) | (refine quiet_loadAny (t := 34) rfl _ _ _ rfl (fun w hw => run_load_B (ov_B r9 w hw) Tryz.isAgg34 (by kernel_rfl)) (by rfl) ?_; simp only [putS]; go_big_quiet_on) | (go_big_quiet_op; go_big_quiet_on)))
 refine wpQuiet_nil ?_
 refine wpRL_callB (by rfl) ?hw3_17 ?_ ?_
 case hw3_17 => kernel_rfl
 ·intro wn hbn hE Kx hKx
  have hsz := B.size
  have hzn := hbn.size
  replace B := B.trans (hbn.mono B.size)
  (try replace r4 := r4.below hbn)
  (try replace r5 := r5.below hbn)
  (try replace r6 := r6.below hbn)
  (try replace r7 := r7.below hbn)
  (try replace r8 := r8.below hbn)
  (try replace r9 := r9.below hbn)
  (try replace rs1 := rs1.below hbn)
  have n104 := hE 15 (by kernel_rfl)
  change RS _ _ _ at n104
  refine wp_callF rfl (enters_of Tryz.func19 (by kernel_rfl) rfl) (by simp only [Act.eval, evlS]; rfl) ?_
  refine (P_EqualT _ _ SN LA wn n104 rs1 HMSN.out.t HMLA.out.t (valid_len HMSN.out.v) (valid_len HMLA.out.v) E11.out).mono ?_
  rintro e wm ⟨rfl, hbm⟩
  refine ⟨_, rfl, ?_⟩
  have hz := hKx () wm trivial hbm
  dsimp only [detS] at hz
  exact hz
 rintro ⟨⟩
 dsimp only [detS]
 simp only [putS]
 refine wpRL_chunk 4 (by kernel_rfl) ?_
 simp only [takS, Nat.reduceAdd]
 repeat (first | go_big_quiet_skip | (go_big_quiet_want; first | (refine quiet_loadAny (t := 34) rfl _ _ _ rfl (fun w hw => run_load_B (ov_B r4 w hw) Tryz.isAgg34 (by kernel_rfl)) (by rfl) ?_; simp only [putS]; go_big_quiet_on) | (refine quiet_loadAny (t := 34) rfl _ _ _ rfl (fun w hw => run_load_B (ov_B r5 w hw) Tryz.isAgg34 (by kernel_rfl)) (by rfl) ?_; simp only [putS]; go_big_quiet_on) | (refine quiet_loadAny (t := 34) rfl _ _ _ rfl (fun w hw => run_load_B (ov_B r6 w hw) Tryz.isAgg34 (by kernel_rfl)) (by rfl) ?_; simp only [putS]; go_big_quiet_on) | (refine quiet_loadAny (t := 34) rfl _ _ _ rfl (fun w hw => run_load_B (ov_B r7 w hw) Tryz.isAgg34 (by kernel_rfl)) (by rfl) ?_; simp only [putS]; go_big_quiet_on) | (refine quiet_loadAny (t := 34) rfl _ _ _ rfl (fun w hw => run_load_B (ov_B r8 w hw) Tryz.isAgg34 (by kernel_rfl)) (by rfl) ?_; simp only [putS]; go_big_quiet_on) | (refine quiet_loadAny (t := 34) rfl _ _ _ rfl (fun w hw => run_load_B (ov_B r9 w hw) Tryz.isAgg34 (by kernel_rfl)) (by rfl) ?_; simp only [putS]; go_big_quiet_on) | (go_big_quiet_op; go_big_quiet_on)))
 refine wpQuiet_nil ?_
 refine wpRL_callB (by rfl) ?hw3_22 ?_ ?_
 case hw3_22 => kernel_rfl
 ·intro wn hbn hE Kx hKx
  have hsz := B.size
  have hzn := hbn.size
  replace B := B.trans (hbn.mono B.size)
  (try replace r4 := r4.below hbn)
  (try replace r5 := r5.below hbn)
  (try replace r6 := r6.below hbn)
  (try replace r7 := r7.below hbn)
  (try replace r8 := r8.below hbn)
  (try replace r9 := r9.below hbn)
  (try replace rs1 := rs1.below hbn)
  refine wp_callF rfl (enters_of Tryz.func16 (by kernel_rfl) rfl) (by simp only [Act.eval, evlS]; rfl) ?_
  refine (P_MinusV _ _ [] LA NS0 wn (RS.nil wn) rs1 HMn.out.t HMLA.out.t HMn.out.v HMLA.out.v HXNS0.out).mono ?_
  rintro e wm ⟨v', rfl, hr, hbm⟩
  obtain ⟨a', c', rfl, _⟩ := hr.len
  exact ⟨_, rfl, hKx (a', c') wm hr hbm⟩
 rintro ⟨a111, c111⟩
 dsimp only [detS, rasS]
 simp only [putS]
 refine wpRL_chunk 1 (by kernel_rfl) ?_
 simp only [takS, Nat.reduceAdd]
 repeat (first | go_big_quiet_skip | (go_big_quiet_want; first | (refine quiet_loadAny (t := 34) rfl _ _ _ rfl (fun w hw => run_load_B (ov_B r4 w hw) Tryz.isAgg34 (by kernel_rfl)) (by rfl) ?_; simp only [putS]; go_big_quiet_on) | (refine quiet_loadAny (t := 34) rfl _ _ _ rfl (fun w hw => run_load_B (ov_B r5 w hw) Tryz.isAgg34 (by kernel_rfl)) (by rfl) ?_; simp only [putS]; go_big_quiet_on) | (refine quiet_loadAny (t := 34) rfl _ _ _ rfl (fun w hw => run_load_B (ov_B r6 w hw) Tryz.isAgg34 (by kernel_rfl)) (by rfl) ?_; simp only [putS]; go_big_quiet_on) | (refine quiet_loadAny (t := 34) rfl _ _ _ rfl (fun w hw => run_load_B (ov_B r7 w hw) Tryz.isAgg34 (by kernel_rfl)) (by rfl) ?_; simp only [putS]; go_big_quiet_on) | (refine quiet_loadAny (t := 34) rfl _ _ _ rfl (fun w hw => run_load_B (ov_B r8 w hw) Tryz.isAgg34 (by kernel_rfl)) (by rfl) ?_; simp only [putS]; go_big_quiet_on) | (refine quiet_loadAny (t := 34) rfl _ _ _ rfl (fun w hw => run_load_B (ov_B r9 w hw) Tryz.isAgg34 (by kernel_rfl)) (by rfl) ?_; simp only [putS]; go_big_quiet_on) | (go_big_quiet_op; go_big_quiet_on)))
 refine wpQuiet_nil ?_
 refine wpRL_callB (by rfl) ?hw3_24 ?_ ?_
 case hw3_24 => kernel_rfl
 ·intro wn hbn hE Kx hKx
  have hsz := B.size
  have hzn := hbn.size
  replace B := B.trans (hbn.mono B.size)
  have n111 := hE 22 (by kernel_rfl)
  change RS _ _ _ at n111
  refine wp_callF rfl (enters_of Tryz.func19 (by kernel_rfl) rfl) (by simp only [Act.eval, evlS]; rfl) ?_
  refine (P_EqualT _ _ NS0 [] wn n111 (RS.nil wn) HMNS0.out.t HMn.out.t (valid_len HMNS0.out.v) (valid_len HMn.out.v) E12.out).mono ?_
  rintro e wm ⟨rfl, hbm⟩
  refine ⟨_, rfl, ?_⟩
  have hz := hKx () wm trivial hbm
  dsimp only [detS] at hz
  exact hz
 rintro ⟨⟩
 dsimp only [detS]
 simp only [putS]
 refine wpRL_chunk 2 (by kernel_rfl) ?_
 simp only [takS, Nat.reduceAdd]
 repeat (first | go_big_quiet_skip | (go_big_quiet_want; go_big_quiet_op; go_big_quiet_on))
 refine wpQuiet_nil ?_
 refine wpRL_nil ?_
 intro wn hbn hE
 have hsz := B.size
 have hzn := hbn.size
 replace B := B.trans (hbn.mono B.size)
 have n91 := hE 2
 change RS _ _ _ at n91
 have n97 := hE 8
 change RS _ _ _ at n97
 have n104 := hE 15
 change RS _ _ _ at n104
 have n111 := hE 22
 change RS _ _ _ at n111
 clear hE
 try simp only [List.drop_succ_cons, List.drop_zero]
 refine NoPan.normal ?_
 go_upto_region 11 with fail
 refine wp_region_lit ?_
 try simp only [gelS]
 refine wpList_chunk 11 (by kernel_rfl) ?_
 simp only [takS, Nat.reduceAdd]
 repeat (first | go_big_quiet_skip | (go_big_quiet_want; go_big_quiet_op; go_big_quiet_on))
 refine wpQuiet_nil ?_
 refine wpList_nil ?_
 go_wp2
 go_ret
 exact ⟨rfl, B⟩
namespace selectionLaws
open Go.ChangeShapes Go.WideShapes Go.ChangeAt Go.RowKit
open Go.ChangeMaps (open_string shut_string)
set_option maxRecDepth 100000 in
theorem lifted (os : Os) (started : os.Started) (H : Type) (enc : TypeId × Value → H) :
  ReturnsInHanded {} Tryz.checked os 5 .any (Rows.selectionLawsSpec.pre6 enc Tryz.prog Tryz.f5 Rows.selectionLawsRow.domain false) (Rows.selectionLawsSpec.post enc Tryz.prog Tryz.f5 false true false false) := by
 refine returnsInHanded_of_change_sized (C := Tryz.checked) own started (by kernel_rfl) Tryz.func5
  (ChangeSpec.witness6 (enc := enc) (C := Tryz.checked) false ⟨#[], #[.agg #[.slice none 0 0, .slice none 0 0, .slice none 0 0]], []⟩ 8 (by kernel_rfl) (by kernel_rfl) (by kernel_rfl) (by kernel_rfl)) ?_
 intro W base args ds gs before hval0 hW hcnd hsz0 _
 have hval : ∀ (j : Nat) t v, Tryz.f5.params[j]? = some t → args[j]? = some v → Value.okWide Tryz.prog W .any base t v := hval0
 have hW' := hW
 obtain ⟨p, q, hA0, hV, rfl, hfz, hnd⟩ := hW
 have hA : DataW.TrodAll enc Tryz.prog W 0 (fun _ => true) true Tryz.f5.params.toList args.toList ds p := hA0
 rw [Tryz.params5] at hA hval hsz0
 obtain ⟨v0, vs0, d0, ds0, p0, q0, hargs, rfl, rfl, h0, r0⟩ := trodAll_cons hA
 obtain ⟨rfl, rfl, rfl⟩ := trodAll_nil r0
 obtain rfl : args = #[v0] := by cases args; simp_all
 obtain ⟨rfl, rfl⟩ := trodVars_none hV
 have hwt0 : ∀ n ∈ DataW.weights Tryz.prog 49 d0, n ≤ reachBytes := fun n hn => by simpa using List.all_eq_true.1 hsz0 n (DataW.weights_mem_each (j := 0) rfl rfl n hn)
 have k0 := h0
 have lt0 : ∀ x ∈ p0, x.block < W.heap.size := by obtain ⟨m, hm⟩ := k0; exact DataW.trod_lt m _ _ _ hm
 obtain ⟨va0, vb0, vc0, La0, Lb0, Lc0, rfl, gA0, gB0, gC0⟩ := open_ints3 (hval 0 49 v0 rfl rfl) h0 hwt0
 clear hA0 hval0
 refine (walk_SelectionLaws va0 vb0 vc0 La0 Lb0 Lc0  W gA0 gB0 gC0).mono fun e W' ⟨he, bel⟩ => ?_
 subst he
 exact ⟨_, rfl, _, _, _, [], _, [], hW', trodAll_mk1 (shut_bool Tryz.underlying4 _), (trodAll_cons_mk (Below.trod laidOut (by kernel_rfl) (of_decide_eq_true (by kernel_rfl)) k0 bel lt0) trodAll_mk0), rfl, bel.frame _, fun h => by cases h⟩
theorem over : Rows.selectionLawsRow.holds Tryz.pinned (OpenSpec.ofChange Rows.selectionLawsSpec) :=
 OpenClaim.holds_of_wide 5 Tryz.f5 rfl rfl rfl rfl rfl rfl rfl ⟨rfl, rfl, rfl, rfl, rfl⟩ rfl rfl rfl rfl rfl (by kernel_rfl) Tryz.func5 (by kernel_rfl)
  (of_decide_eq_true (by kernel_rfl)) (by unfold Func.isWrapper; first | (rw [if_pos (by decide +kernel)]; kernel_rfl) | (rw [if_neg (by decide +kernel)]; exact ⟨rfl, rfl⟩))
  (fun os started H enc _ => lifted os started H enc)
/-- THE STATEMENT: SelectionLaws returns true for every input, and its arguments read as they did. -/
theorem proved : Rows.SelectionLawsSaid := over
end selectionLaws
end Go.Proofs.YtamgpfblhlfhaaaGreat
