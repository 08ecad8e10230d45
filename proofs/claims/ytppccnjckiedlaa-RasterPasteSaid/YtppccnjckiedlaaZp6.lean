/- RasterPaste: for every raster and image, Paste agrees with the reference; the law returns true for every input, and its arguments read as they did. No condition. -/
import Derived.Test.YtppccnjckiedlaaZp5

/- gouachelaw08's image: an image of the near rectangle, whose pixels are made of integers. -/
namespace Go.Proofs.Ytppccnjckiedlaa
open Go.RowKit Go.Shelf Pl
set_option linter.unusedVariables false
set_option linter.unusedSimpArgs false
set_option maxRecDepth 20000
def shoC (c : Rc) (v : Value) (n : Int) : Array Value := #[.int .i64 c.x0, .int .i64 c.y0, .int .i64 c.x1, .int .i64 c.y1, v, .int .i64 n]
theorem shoC_v {w : World} {b : Nat} {c : Rc} {v : Value} {n : Int} (h : AtB 92 w b (shoC c v n)) : w.cell? ⟨b, 4, none⟩ = some v := h.cell 4 rfl
theorem shoC_n {w : World} {b : Nat} {c : Rc} {v : Value} {n : Int} (h : AtB 92 w b (shoC c v n)) : w.cell? ⟨b, 5, none⟩ = some (.int .i64 n) := h.cell 5 rfl
theorem run_load_shoR {w : World} {b : Nat} {c : Rc} {v : Value} {n : Int} (h : AtB 92 w b (shoC c v n)) : (Instr.loadAt 64 (.pointer (some ⟨b, 0, none⟩))).run Try.prog w = .ok (.agg (rcA c)) w :=
  run_load_BP (cs' := rcA c) h 0 Try.isAgg64 (by kernel_rfl) (fun j hj => by
    have hj : j < 4 := hj
    have hc : j = 0 ∨ j = 1 ∨ j = 2 ∨ j = 3 := by omega
    rcases hc with rfl | rfl | rfl | rfl <;> rfl)
theorem tmod_nat2 {a b : Int} (ha : 0 ≤ a) (hb : 0 < b) : ∃ X : Nat, a.tmod b = X ∧ (X : Int) < b := by
  have e := Int.tmod_eq_emod_of_nonneg (b := b) ha
  have h1 := Int.emod_nonneg a (show b ≠ 0 by omega)
  have h2 := Int.emod_lt_of_pos a hb
  exact ⟨(a % b).toNat, by rw [e]; omega, by omega⟩
theorem tdiv_nat2 {a b : Int} (ha : 0 ≤ a) (hb : 0 < b) : ∃ Y : Nat, a.tdiv b = Y ∧ (Y : Int) ≤ a := by
  have e := Int.tdiv_eq_ediv_of_nonneg (b := b) ha
  have h1 := Int.ediv_nonneg ha (show 0 ≤ b by omega)
  have h2 := Int.ediv_le_self b ha
  exact ⟨(a / b).toNat, by rw [e]; omega, by omega⟩
theorem rse_drop {g o c : Nat} {P : List Px} {w : World} (h : RCellsE pxE g o P w) (hc : P.length ≤ c) {k : Nat} (hk : k ≤ P.length) : RSE pxE (.slice (some ⟨g, o + k * 4, none⟩) (P.drop k).length (c - k)) (P.drop k) w :=
  .inr (.inl ⟨g, o + k * 4, c - k, rfl, by rw [List.length_drop]; omega, fun _ => h.drop k⟩)
def bsS (n : Nat) (t : TypeId) (cs : Array Value) : NSpec := ⟨Nat, ⟨0⟩, fun b => .slice (some ⟨b, 0, none⟩) 1 1, fun b w => n ≤ b ∧ AtB t w b cs, fun _ _ _ hb h => ⟨h.1, h.2.of_eq (hb.block _ h.2.lt)⟩⟩
theorem OkL.nil : OkL [] := fun p h => by cases h
theorem OkL.snoc {L : List Px} {p : Px} (h : OkL L) (hp : p.ok) : OkL (L ++ [p]) := fun q hq => by
  rcases List.mem_append.1 hq with hq | hq
  · exact h q hq
  · rcases List.mem_singleton.1 hq with rfl
    exact hp
theorem OkL.drop {L : List Px} (h : OkL L) (n : Nat) : OkL (L.drop n) := fun q hq => h q (List.mem_of_mem_drop hq)
set_option maxHeartbeats 4000000 in
theorem L_image (c : Rc) (vL : Value) (L : List Int) (less : Int) (w : World) (hL : RSE inE vL L w) (hLn : L.length ≤ 17592186044416) : Calls Try.prog 47 #[.agg (shoC c vL less)] w fun e w' => ∃ (P : List Px) (a : Option Addr) (cp : Nat), e = .returned (.agg (imgC (nearR c) (.slice a P.length cp))) ∧ RSE pxE (.slice a P.length cp) P w' ∧ OkL P ∧ P.length ≤ 1024 ∧ Below w.heap.size w w' := by
  have B := Below.refl w.heap.size w
  obtain ⟨a, cv, rfl, hcv⟩ := hL.len
  have HL := Lib.hid hL
  have HN := Lib.hid (near_fits c)
  have HF := fitsE_zero (near_fits c)
  have HV := Lib.hid HF.valid
  have HA := Lib.hid (area_N HF)
  have hAN : areaN (nearR c) ≤ 1024 := by
    obtain ⟨h1, h2, h3, h4, h5, h6, h7, h8⟩ := nearR_bd c
    have h := area_N HF
    unfold areaN
    have m := Nat.mul_le_mul (show ((nearR c).x1 - (nearR c).x0).toNat ≤ 32 by omega) (show ((nearR c).y1 - (nearR c).y0).toNat ≤ 32 by omega)
    rw [Int.toNat_mul (by omega) (by omega)]
    exact m
  obtain ⟨n, hn⟩ : ∃ n, areaN (nearR c) = n := ⟨_, rfl⟩
  rw [hn] at HA hAN
  clear hL HF hn
  go_enter Try.func47, Try.ntmps47
  go_upto_region 0 with fail
  refine wp_region_lit ?_
  try simp only [List.getElem_toArray, List.getElem_cons_zero, List.getElem_cons_succ]
  (refine wpList_boxB (t := 92) rfl _ rfl _ rfl ?_; intro b_s1 wn hle hge ht hbn hzn; have hsz := B.size; replace B := B.trans (hbn.mono (by omega)); have hln := Nat.lt_of_lt_of_eq (Nat.lt_succ_self _) hzn.symm; clear hzn; have s1 := ht; clear ht; simp only [Act.put, putS])
  (refine wpList_allocBk (t := 68) rfl _ (run_alloc_Im _ _ rfl) ?_; intro b_i2 wn hle hge ht hbn hzn; have hsz := B.size; replace B := B.trans (hbn.mono (by omega)); have hln := Nat.lt_of_lt_of_eq (Nat.lt_succ_self _) hzn.symm; clear hzn; (try first | (have hlt := s1.lt; replace s1 := s1.of_eq (hbn.block _ (by omega))) | replace s1 := s1.below (hbn.mono hle)); have i2 := ht; clear ht; simp only [Act.put, putS])
  refine wpList_nil ?_
  replace i2 : AtB 68 _ b_i2 (imgC Rc.zero (.slice none 0 0)) := i2
  go_upto_region 1 with fail
  refine wp_region_lit ?_
  try simp only [List.getElem_toArray, List.getElem_cons_zero, List.getElem_cons_succ]
  refine wpList_chunk 2 (by kernel_rfl) ?_
  simp only [takS, Nat.reduceAdd]
  repeat (first | go_big_quiet_skip | (go_big_quiet_want; first | (refine quiet_loadAny (t := 64) rfl _ _ _ rfl (fun w hw => run_load_shoR (ov_B s1 w hw)) (by first | rfl | omega) ?_; simp only [Act.put, putS]; go_big_quiet_on) | (refine quiet_loadAny (t := 64) rfl _ _ _ rfl (fun w hw => run_load_imR (ov_B i3 w hw)) (by first | rfl | omega) ?_; simp only [Act.put, putS]; go_big_quiet_on) | (refine quiet_buildIm rfl (nearR c) rfl ?_; simp only [Act.put, putS]; go_big_quiet_on) | (go_big_quiet_op; go_big_quiet_on)))
  refine wpQuiet_nil ?_
  refine wpList_callF (by first | rfl | simp [Region.wanted, yielded]) rfl (enters_of Try.func32 (by kernel_rfl) rfl) (by simp only [List.map_toArray, List.map_cons, List.map_nil, Act.eval, Array.getD_eq_getD_getElem?, List.getElem?_toArray, List.getElem?_cons_succ, List.getElem?_cons_zero, Option.getD_some]; rfl) ?_
  refine (R_Near c _).mono ?_
  rintro e wn ⟨rfl, hbn⟩
  have hsz := B.size
  have hzn := hbn.size
  replace B := B.trans (hbn.mono B.size)
  (try first | replace s1 := s1.of_eq (hbn.block _ s1.lt) | replace s1 := s1.below hbn)
  (try first | replace i2 := i2.of_eq (hbn.block _ i2.lt) | replace i2 := i2.below hbn)
  (try first | replace i3 := i3.of_eq (hbn.block _ i3.lt) | replace i3 := i3.below hbn)
  refine ⟨_, rfl, ?_⟩
  simp only [Act.put, putS]
  refine wpList_chunk 1 (by kernel_rfl) ?_
  simp only [takS, Nat.reduceAdd]
  repeat (first | go_big_quiet_skip | (go_big_quiet_want; first | (refine quiet_buildIm rfl (nearR c) rfl ?_; simp only [Act.put, putS]; go_big_quiet_on) | (go_big_quiet_op; go_big_quiet_on)))
  refine wpQuiet_nil ?_
  (refine wpList_allocBk (t := 68) rfl _ (run_alloc_Im _ _ rfl) ?_; intro b_i3 wn hle hge ht hbn hzn; have hsz := B.size; replace B := B.trans (hbn.mono (by omega)); have hln := Nat.lt_of_lt_of_eq (Nat.lt_succ_self _) hzn.symm; clear hzn; (try first | (have hlt := s1.lt; replace s1 := s1.of_eq (hbn.block _ (by omega))) | replace s1 := s1.below (hbn.mono hle)); (try first | (have hlt := i2.lt; replace i2 := i2.of_eq (hbn.block _ (by omega))) | replace i2 := i2.below (hbn.mono hle)); (try first | (have hlt := i3.lt; replace i3 := i3.of_eq (hbn.block _ (by omega))) | replace i3 := i3.below (hbn.mono hle)); have i3 := ht; clear ht; simp only [Act.put, putS])
  (refine wpList_storeB (t := 68) rfl _ _ rfl _ rfl _ rfl i3 (by kernel_rfl) rfl (by simp [rcA, imgC, Value.oneCell']) ?_; clear i3; intro wn ht hcn hzn; have hsz := B.size; replace hzn := Nat.le_of_eq hzn.symm; replace B := Chg.below B hcn (by omega) B.size; (try replace s1 := s1.of_eq (hcn.block _ s1.lt (by omega))); (try replace i2 := i2.of_eq (hcn.block _ i2.lt (by omega))); have i3 := ht; clear ht; simp only [Act.put, putS])
  refine wpList_nil ?_
  replace i3 : AtB 68 _ b_i3 (imgC (nearR c) (.slice none 0 0)) := i3
  go_upto_region 2 with fail
  refine wp_region_lit ?_
  try simp only [List.getElem_toArray, List.getElem_cons_zero, List.getElem_cons_succ]
  refine wpList_chunk 2 (by kernel_rfl) ?_
  simp only [takS, Nat.reduceAdd]
  repeat (first | go_big_quiet_skip | (go_big_quiet_want; first | (refine quiet_loadAny (t := 64) rfl _ _ _ rfl (fun w hw => run_load_shoR (ov_B s1 w hw)) (by first | rfl | omega) ?_; simp only [Act.put, putS]; go_big_quiet_on) | (refine quiet_loadAny (t := 64) rfl _ _ _ rfl (fun w hw => run_load_imR (ov_B i3 w hw)) (by first | rfl | omega) ?_; simp only [Act.put, putS]; go_big_quiet_on) | (refine quiet_buildIm rfl (nearR c) rfl ?_; simp only [Act.put, putS]; go_big_quiet_on) | (go_big_quiet_op; go_big_quiet_on)))
  refine wpQuiet_nil ?_
  refine wpList_callF (by first | rfl | simp [Region.wanted, yielded]) rfl (enters_of Try.func36 (by kernel_rfl) rfl) (by simp only [List.map_toArray, List.map_cons, List.map_nil, Act.eval, Array.getD_eq_getD_getElem?, List.getElem?_toArray, List.getElem?_cons_succ, List.getElem?_cons_zero, Option.getD_some]; rfl) ?_
  refine (R_AreaB2 (nearR c) (n : Int) _ HV.out HA.out).mono ?_
  rintro e wn ⟨rfl, hbn⟩
  have hsz := B.size
  have hzn := hbn.size
  replace B := B.trans (hbn.mono B.size)
  (try first | replace s1 := s1.of_eq (hbn.block _ s1.lt) | replace s1 := s1.below hbn)
  (try first | replace i2 := i2.of_eq (hbn.block _ i2.lt) | replace i2 := i2.below hbn)
  (try first | replace i3 := i3.of_eq (hbn.block _ i3.lt) | replace i3 := i3.below hbn)
  refine ⟨_, rfl, ?_⟩
  simp only [Act.put, putS]
  refine wpList_chunk 1 (by kernel_rfl) ?_
  simp only [takS, Nat.reduceAdd]
  repeat (first | go_big_quiet_skip | (go_big_quiet_want; first | (refine quiet_buildIm rfl (nearR c) rfl ?_; simp only [Act.put, putS]; go_big_quiet_on) | (go_big_quiet_op; go_big_quiet_on)))
  refine wpQuiet_nil ?_
  refine wpList_nil ?_
  have k1 : w.heap.size ≤ b_s1 := by omega
  have k2 : b_s1 < b_i2 := by have := s1.lt; omega
  have k3 : b_i2 < b_i3 := by have := i2.lt; omega
  have k4 := i3.lt
  obtain ⟨b0, hb0⟩ : ∃ n, n = wn.heap.size := ⟨_, rfl⟩
  have k5 : b_i3 < b0 := by omega
  have k6 : b0 ≤ wn.heap.size := by omega
  have od : OwnE pxE b0 (.slice none 0 0) [] wn := OwnE.nil b0 wn
  clear hb0 k4
  go_upto_region 3 with fail
  refine wp_region_lit ?_
  try simp only [List.getElem_toArray, List.getElem_cons_zero, List.getElem_cons_succ]
  refine wpList_chunk 1 (by kernel_rfl) ?_
  simp only [takS, Nat.reduceAdd]
  repeat (first | go_big_quiet_skip | (go_big_quiet_want; first | (refine quiet_buildIm rfl (nearR c) rfl ?_; simp only [Act.put, putS]; go_big_quiet_on) | (go_big_quiet_op; go_big_quiet_on)))
  refine wpQuiet_nil ?_
  refine wpList_nil ?_
  go_wp2
  go_loopw [5] (fun iv wr => ∃ (k cp : Nat) (ad : Option Addr) (P : List Px), k ≤ n ∧ iv = .int .i64 (k : Int) ∧ P.length ≤ k ∧ OkL P ∧ Below w.heap.size w wr ∧ b0 ≤ wr.heap.size ∧ AtB 92 wr b_s1 (shoC c (.slice a L.length cv) less) ∧ AtB 68 wr b_i2 (imgC Rc.zero (.slice none 0 0)) ∧ AtB 68 wr b_i3 (imgC (nearR c) (.slice ad P.length cp)) ∧ OwnE pxE b0 (.slice ad P.length cp) P wr) (fun iv _ => (n - intOf iv).toNat)
  case atStart => exact ⟨0, 0, none, [], by omega, rfl, by simp, OkL.nil, B, k6, s1, i2, i3, od⟩
  case round =>
    clear B s1 i2 i3 od k6
    obtain ⟨k, cp, ad, P, hk, rfl, hP, okP, B, k6, s1, i2, i3, od⟩ := hrel
    have OKP := Lib.hid okP
    clear okP
    by_cases hk1 : k < n
    · have q1 : decide ((k : Int) < (n : Int)) = true := decide_eq_true (by omega)
      have q2 : decide (k < n) = true := decide_eq_true hk1
      by_cases hk2 : 0 < L.length
      · have q3 : decide ((0 : Int) < (L.length : Int)) = true := decide_eq_true (by omega)
        have q4 : decide (0 < L.length) = true := decide_eq_true hk2
        obtain ⟨gl, ol, rfl, rcl0⟩ := HL.out.at hk2
        have rcl := rcl0.of_eq (B.block _ rcl0.lt)
        have rclB := rcl
        obtain ⟨X, hX, hX2⟩ := tmod_nat2 (a := (k : Int)) (b := (L.length : Int)) (by omega) (by omega)
        obtain ⟨Y, hY, hY2⟩ := tdiv_nat2 (a := (k : Int)) (b := (L.length : Int)) (by omega) (by omega)
        have hXl : X < L.length := by omega
        have hel : L[X]? = some L[X] := List.getElem?_eq_getElem hXl
        generalize L[X] = xv at hel
        go_upto_region 4 with fail
        refine wp_region_lit ?_
        try simp only [List.getElem_toArray, List.getElem_cons_zero, List.getElem_cons_succ]
        refine wpList_chunk 6 (by kernel_rfl) ?_
        simp only [takS, Nat.reduceAdd]
        repeat (first | go_big_quiet_skip | (go_big_quiet_want; first | (refine quiet_loadAny (t := 22) rfl _ _ _ rfl (fun w hw => run_load_sli (shoC_v (ov_B s1 w hw))) (by first | rfl | omega) ?_; simp only [Act.put, putS]; go_big_quiet_on) | (refine quiet_buildIm rfl (nearR c) rfl ?_; simp only [Act.put, putS]; go_big_quiet_on) | (go_big_quiet_op; go_big_quiet_on)))
        refine wpQuiet_nil ?_
        refine wpList_lenS (by first | rfl | simp [Region.wanted, yielded]) rfl Try.underlying22 rfl ?_
        simp only [Act.put, putS]
        refine wpList_chunk 2 (by kernel_rfl) ?_
        simp only [takS, Nat.reduceAdd]
        repeat (first | go_big_quiet_skip | (go_big_quiet_want; first | (refine quiet_buildIm rfl (nearR c) rfl ?_; simp only [Act.put, putS]; go_big_quiet_on) | (go_big_quiet_op; go_big_quiet_on)))
        refine wpQuiet_nil ?_
        refine wpList_nil ?_
        go_wp2
        try simp only [List.getElem_toArray, List.getElem_cons_zero, List.getElem_cons_succ]
        try have lx_s1 := s1.lt
        try have lx_i2 := i2.lt
        try have lx_i3 := i3.lt
        try have lx_od := od.lt
        refine wp_region_RL 19 [(7, detS ?v1_7), (14, detS ?v1_14), (17, detS ?v1_17), (18, bsS (wr.heap.size) 37 (pxE.enc (madeP (wrap64 (xv + (Y : Int))))))] (by kernel_rfl) (by kernel_rfl) (by kernel_rfl) ?_
        rotate_left 3
        simp only [takS, Nat.reduceAdd]
        refine wpRL_chunk 7 (by kernel_rfl) ?_
        simp only [takS, Nat.reduceAdd]
        repeat (first | go_big_quiet_skip | (go_big_quiet_want; first | (refine quiet_loadAny (t := 22) rfl _ _ _ rfl (fun w hw => run_load_sli (shoC_v (ov_B s1 w hw))) (by first | rfl | omega) ?_; simp only [Act.put, putS]; go_big_quiet_on) | (refine quiet_loadAny (t := 66) rfl _ _ _ rfl (fun w hw => run_load_slp (imgC_u (ov_B i3 w hw))) (by first | rfl | omega) ?_; simp only [Act.put, putS]; go_big_quiet_on) | (go_big_quiet_op; go_big_quiet_on)))
        refine wpQuiet_nil ?_
        refine wpRL_callB (by rfl) (by first | rfl | simp [Region.wanted, yielded]) ?_ ?_
        · intro wn hbn hE Kx hKx
          have hsz := B.size
          have hzn := hbn.size
          replace B := B.trans (hbn.mono B.size)
          (try first | replace s1 := s1.of_eq (hbn.block _ s1.lt) | replace s1 := s1.below hbn)
          (try first | replace i2 := i2.of_eq (hbn.block _ i2.lt) | replace i2 := i2.below hbn)
          (try first | replace i3 := i3.of_eq (hbn.block _ i3.lt) | replace i3 := i3.below hbn)
          (try first | replace od := od.of_eq (hbn.block _ od.lt) | replace od := od.below hbn)
          refine wp_lenS rfl Try.underlying22 rfl ?_
          exact hKx () _ trivial (Below.refl _ _)
        rintro ⟨⟩
        dsimp only [detS]
        simp only [Act.put, putS]
        refine wpRL_chunk 6 (by kernel_rfl) ?_
        simp only [takS, Nat.reduceAdd]
        repeat (first | go_big_quiet_skip | (go_big_quiet_want; first | (refine quiet_loadAny (t := 22) rfl _ _ _ rfl (fun w hw => run_load_sli (shoC_v (ov_B s1 w hw))) (by first | rfl | omega) ?_; simp only [Act.put, putS]; go_big_quiet_on) | (refine quiet_loadAny (t := 3) rfl _ _ _ rfl (fun w hw => run_load_int (rci_int (ov_rce rcl w hw) hel)) (by first | rfl | omega) ?_; simp only [Act.put, putS]; go_big_quiet_on) | (go_big_quiet_op; go_big_quiet_on)))
        refine wpQuiet_nil ?_
        refine wpRL_callB (by rfl) (by first | rfl | simp [Region.wanted, yielded]) ?_ ?_
        · intro wn hbn hE Kx hKx
          have hsz := B.size
          have hzn := hbn.size
          replace B := B.trans (hbn.mono B.size)
          (try first | replace s1 := s1.of_eq (hbn.block _ s1.lt) | replace s1 := s1.below hbn)
          (try first | replace i2 := i2.of_eq (hbn.block _ i2.lt) | replace i2 := i2.below hbn)
          (try first | replace i3 := i3.of_eq (hbn.block _ i3.lt) | replace i3 := i3.below hbn)
          (try first | replace od := od.of_eq (hbn.block _ od.lt) | replace od := od.below hbn)
          refine wp_lenS rfl Try.underlying22 rfl ?_
          exact hKx () _ trivial (Below.refl _ _)
        rintro ⟨⟩
        dsimp only [detS]
        simp only [Act.put, putS]
        refine wpRL_chunk 2 (by kernel_rfl) ?_
        simp only [takS, Nat.reduceAdd]
        repeat (first | go_big_quiet_skip | (go_big_quiet_want; first | (go_big_quiet_op; go_big_quiet_on)))
        refine wpQuiet_nil ?_
        refine wpRL_callB (by rfl) (by first | rfl | simp [Region.wanted, yielded]) ?_ ?_
        · intro wn hbn hE Kx hKx
          have hsz := B.size
          have hzn := hbn.size
          replace B := B.trans (hbn.mono B.size)
          (try first | replace s1 := s1.of_eq (hbn.block _ s1.lt) | replace s1 := s1.below hbn)
          (try first | replace i2 := i2.of_eq (hbn.block _ i2.lt) | replace i2 := i2.below hbn)
          (try first | replace i3 := i3.of_eq (hbn.block _ i3.lt) | replace i3 := i3.below hbn)
          (try first | replace od := od.of_eq (hbn.block _ od.lt) | replace od := od.below hbn)
          refine wp_callF rfl (enters_of Try.func24 (by kernel_rfl) rfl) (by simp only [List.map_toArray, List.map_cons, List.map_nil, Act.eval, Array.getD_eq_getD_getElem?, List.getElem?_toArray, List.getElem?_cons_succ, List.getElem?_cons_zero, Option.getD_some]; rfl) ?_
          refine (R_Made4 _ _).mono ?_
          rintro e wm ⟨rfl, hbm⟩
          refine ⟨_, rfl, ?_⟩
          have hz := hKx () wm trivial hbm
          dsimp only [detS] at hz
          exact hz
        rintro ⟨⟩
        dsimp only [detS]
        simp only [Act.put, putS]
        refine wpRL_callB (by rfl) (by first | rfl | simp [Region.wanted, yielded]) ?_ ?_
        · intro wn hbn hE Kx hKx
          have hsz := B.size
          have hzn := hbn.size
          replace B := B.trans (hbn.mono B.size)
          (try first | replace s1 := s1.of_eq (hbn.block _ s1.lt) | replace s1 := s1.below hbn)
          (try first | replace i2 := i2.of_eq (hbn.block _ i2.lt) | replace i2 := i2.below hbn)
          (try first | replace i3 := i3.of_eq (hbn.block _ i3.lt) | replace i3 := i3.below hbn)
          (try first | replace od := od.of_eq (hbn.block _ od.lt) | replace od := od.below hbn)
          refine owp_bs1E (E := pxE) _ rfl (madeP (wrap64 (xv + (Y : Int)))) rfl (by omega) ?_
          intro b wm h1 h2 ht hbm hzm
          exact hKx b wm ⟨Nat.le_trans hbn.size h1, ht⟩ (hbm.mono h1)
        rintro b_s9
        dsimp only [detS, bsS]
        simp only [Act.put, putS]
        refine wpRL_nil ?_
        intro wn hbn hE
        have hsz := B.size
        have hzn := hbn.size
        replace B := B.trans (hbn.mono B.size)
        (try first | replace s1 := s1.of_eq (hbn.block _ s1.lt) | replace s1 := s1.below hbn)
        (try first | replace i2 := i2.of_eq (hbn.block _ i2.lt) | replace i2 := i2.below hbn)
        (try first | replace i3 := i3.of_eq (hbn.block _ i3.lt) | replace i3 := i3.below hbn)
        (try first | replace od := od.of_eq (hbn.block _ od.lt) | replace od := od.below hbn)
        obtain ⟨hge_s9, s9⟩ : _ ∧ AtB _ _ _ _ := hE 18
        clear hE
        try simp only [List.drop_succ_cons, List.drop_zero]
        have okp := madeP_ok (wrap64 (xv + (Y : Int)))
        generalize madeP (wrap64 (xv + (Y : Int))) = pp at *
        clear rclB rcl rcl0
        go_wp2_with (first | (refine wpList_storeU rfl _ _ rfl _ rfl _ _ _ rfl i3 ?_; clear i3; intro wn ht hcn hzn; have hsz := B.size; replace hzn := Nat.le_of_eq hzn.symm; replace B := Chg.below B hcn (by omega) B.size; (try replace s1 := s1.of_eq (hcn.block _ s1.lt (by omega))); (try replace i2 := i2.of_eq (hcn.block _ i2.lt (by omega))); replace od := od.chg hcn (by omega); have i3 := ht; clear ht; simp only [Act.put, putS]) | (at_builtin; refine wpList_appendE rfl _ _ rfl _ _ rfl rfl od ((RSE.one s9)) (by simp only [List.length_cons, List.length_nil]; omega) (by omega) ?_; intro v_od wn ht hbn; have hsz := B.size; have hbz := hbn.size; replace B := B.trans (hbn.mono (by omega)); clear od; (try replace s1 := s1.of_eq (hbn.block _ (by omega))); (try replace i2 := i2.of_eq (hbn.block _ (by omega))); (try replace i3 := i3.of_eq (hbn.block _ (by omega))); have od := ht; clear ht; obtain ⟨a_od, c_od, hv, hco⟩ := od.len; (try simp only [List.length_append, List.length_cons, List.length_nil, Nat.zero_add] at hv hco); subst hv; simp only [Act.put, putS]) | fail)
        refine NoPan.normal ?_
        go_wp2
        go_roundw
        case rel => exact ⟨k + 1, _, _, P ++ [pp], by omega, by go_num, by rw [List.length_append]; simp only [List.length_cons, List.length_nil]; omega, OKP.out.snoc okp, B, by omega, s1, i2, by rw [List.length_append]; exact i3, by rw [List.length_append]; exact od⟩
        case measure => simp [intOf]; omega
      · obtain rfl : L = [] := List.eq_nil_of_length_eq_zero (by omega)
        have q3 : decide ((0 : Int) < (([] : List Int).length : Int)) = false := by decide
        go_upto_region 4 with fail
        refine wp_region_lit ?_
        try simp only [List.getElem_toArray, List.getElem_cons_zero, List.getElem_cons_succ]
        refine wpList_chunk 6 (by kernel_rfl) ?_
        simp only [takS, Nat.reduceAdd]
        repeat (first | go_big_quiet_skip | (go_big_quiet_want; first | (refine quiet_loadAny (t := 22) rfl _ _ _ rfl (fun w hw => run_load_sli (shoC_v (ov_B s1 w hw))) (by first | rfl | omega) ?_; simp only [Act.put, putS]; go_big_quiet_on) | (refine quiet_buildIm rfl (nearR c) rfl ?_; simp only [Act.put, putS]; go_big_quiet_on) | (go_big_quiet_op; go_big_quiet_on)))
        refine wpQuiet_nil ?_
        refine wpList_lenS (by first | rfl | simp [Region.wanted, yielded]) rfl Try.underlying22 rfl ?_
        simp only [Act.put, putS]
        refine wpList_chunk 2 (by kernel_rfl) ?_
        simp only [takS, Nat.reduceAdd]
        repeat (first | go_big_quiet_skip | (go_big_quiet_want; first | (refine quiet_buildIm rfl (nearR c) rfl ?_; simp only [Act.put, putS]; go_big_quiet_on) | (go_big_quiet_op; go_big_quiet_on)))
        refine wpQuiet_nil ?_
        refine wpList_nil ?_
        by_cases g1 : 0 < less
        · have t1 : decide (0 < less) = true := decide_eq_true g1
          by_cases g2 : less < 3
          · have t2 : decide (less < 3) = true := decide_eq_true g2
            by_cases g3 : 2 < P.length
            · have t3 : decide ((2 : Int) < (P.length : Int)) = true := decide_eq_true (by omega)
              have t4 : decide (2 < P.length) = true := decide_eq_true g3
              obtain ⟨_, _, e1, hcp⟩ := od.rs.len
              simp only [Value.slice.injEq] at e1
              obtain ⟨rfl, _, rfl⟩ := e1
              obtain ⟨go, oo, rfl, rc⟩ := od.rs.at (by omega)
              clear rc
              go_upto_region 7 with fail
              refine wp_region_lit ?_
              try simp only [List.getElem_toArray, List.getElem_cons_zero, List.getElem_cons_succ]
              refine wpList_chunk 11 (by kernel_rfl) ?_
              simp only [takS, Nat.reduceAdd]
              repeat (first | go_big_quiet_skip | (go_big_quiet_want; first | (refine quiet_loadAny (t := 3) rfl _ _ _ rfl (fun w hw => run_load_int (shoC_n (ov_B s1 w hw))) (by first | rfl | omega) ?_; simp only [Act.put, putS]; go_big_quiet_on) | (refine quiet_loadAny (t := 3) rfl _ _ _ rfl (fun w hw => run_load_int (rci_int (ov_rce rcl w hw) hel)) (by first | rfl | omega) ?_; simp only [Act.put, putS]; go_big_quiet_on) | (refine quiet_loadAny (t := 66) rfl _ _ _ rfl (fun w hw => run_load_slp (imgC_u (ov_B i3 w hw))) (by first | rfl | omega) ?_; simp only [Act.put, putS]; go_big_quiet_on) | (refine quiet_buildIm rfl (nearR c) rfl ?_; simp only [Act.put, putS]; go_big_quiet_on) | (go_big_quiet_op; go_big_quiet_on)))
              refine wpQuiet_nil ?_
              refine wpList_lenS (by first | rfl | simp [Region.wanted, yielded]) rfl Try.underlying66 rfl ?_
              simp only [Act.put, putS]
              refine wpList_chunk 2 (by kernel_rfl) ?_
              simp only [takS, Nat.reduceAdd]
              repeat (first | go_big_quiet_skip | (go_big_quiet_want; first | (refine quiet_buildIm rfl (nearR c) rfl ?_; simp only [Act.put, putS]; go_big_quiet_on) | (go_big_quiet_op; go_big_quiet_on)))
              refine wpQuiet_nil ?_
              refine wpList_nil ?_
              have hl : less = 1 ∨ less = 2 := by omega
              rcases hl with rfl | rfl
              · skip
                go_upto_region 8 with fail
                refine wp_region_lit ?_
                try simp only [List.getElem_toArray, List.getElem_cons_zero, List.getElem_cons_succ]
                refine wpList_chunk 6 (by kernel_rfl) ?_
                simp only [takS, Nat.reduceAdd]
                repeat (first | go_big_quiet_skip | (go_big_quiet_want; first | (refine quiet_loadAny (t := 3) rfl _ _ _ rfl (fun w hw => run_load_int (shoC_n (ov_B s1 w hw))) (by first | rfl | omega) ?_; simp only [Act.put, putS]; go_big_quiet_on) | (refine quiet_loadAny (t := 3) rfl _ _ _ rfl (fun w hw => run_load_int (rci_int (ov_rce rcl w hw) hel)) (by first | rfl | omega) ?_; simp only [Act.put, putS]; go_big_quiet_on) | (refine quiet_loadAny (t := 66) rfl _ _ _ rfl (fun w hw => run_load_slp (imgC_u (ov_B i3 w hw))) (by first | rfl | omega) ?_; simp only [Act.put, putS]; go_big_quiet_on) | (refine quiet_buildIm rfl (nearR c) rfl ?_; simp only [Act.put, putS]; go_big_quiet_on) | (go_big_quiet_op; go_big_quiet_on)))
                refine wpQuiet_nil ?_
                (refine wpList_storeU rfl _ _ rfl _ rfl _ _ _ rfl i3 ?_; clear i3; intro wn ht hcn hzn; have hsz := B.size; replace hzn := Nat.le_of_eq hzn.symm; replace B := Chg.below B hcn (by omega) B.size; (try replace s1 := s1.of_eq (hcn.block _ s1.lt (by omega))); (try replace i2 := i2.of_eq (hcn.block _ i2.lt (by omega))); replace od := od.chg hcn (by omega); have i3 := ht; clear ht; simp only [Act.put, putS])
                refine wpList_nil ?_
                go_upto_region 9 with fail
                refine wp_region_lit ?_
                try simp only [List.getElem_toArray, List.getElem_cons_zero, List.getElem_cons_succ]
                refine wpList_chunk 1 (by kernel_rfl) ?_
                simp only [takS, Nat.reduceAdd]
                repeat (first | go_big_quiet_skip | (go_big_quiet_want; first | (refine quiet_loadAny (t := 68) rfl _ _ _ rfl (fun w hw => run_load_img (ov_B i3 w hw)) (by first | rfl | omega) ?_; simp only [Act.put, putS]; go_big_quiet_on) | (refine quiet_buildIm rfl (nearR c) rfl ?_; simp only [Act.put, putS]; go_big_quiet_on) | (go_big_quiet_op; go_big_quiet_on)))
                refine wpQuiet_nil ?_
                (refine wpList_storeB (t := 68) rfl _ _ rfl _ rfl _ rfl i2 (by kernel_rfl) rfl (by simp [rcA, imgC, Value.oneCell']) ?_; clear i2; intro wn ht hcn hzn; have hsz := B.size; replace hzn := Nat.le_of_eq hzn.symm; replace B := Chg.below B hcn (by omega) B.size; (try replace s1 := s1.of_eq (hcn.block _ s1.lt (by omega))); (try replace i3 := i3.of_eq (hcn.block _ i3.lt (by omega))); replace od := od.chg hcn (by omega); have i2 := ht; clear ht; simp only [Act.put, putS])
                refine wpList_nil ?_
                iterate 3 go_step
                refine bodyPost_ret (results_B (t := 68) rfl _ _ (b_i2) rfl i2 Try.isAgg68 (by kernel_rfl)) rfl ?_
                obtain ⟨g2', o2, e2, rc'⟩ := od.rs.at (by omega)
                obtain ⟨rfl, rfl⟩ : go = g2' ∧ oo = o2 := by simpa using e2
                exact ⟨P.drop 1, some ⟨go, oo + 1 * 4, none⟩, cp - 1, by rw [List.length_drop]; rfl, rse_drop rc' hcp (by omega), OKP.out.drop 1, by rw [List.length_drop]; omega, B⟩
              · skip
                go_upto_region 8 with fail
                refine wp_region_lit ?_
                try simp only [List.getElem_toArray, List.getElem_cons_zero, List.getElem_cons_succ]
                refine wpList_chunk 6 (by kernel_rfl) ?_
                simp only [takS, Nat.reduceAdd]
                repeat (first | go_big_quiet_skip | (go_big_quiet_want; first | (refine quiet_loadAny (t := 3) rfl _ _ _ rfl (fun w hw => run_load_int (shoC_n (ov_B s1 w hw))) (by first | rfl | omega) ?_; simp only [Act.put, putS]; go_big_quiet_on) | (refine quiet_loadAny (t := 3) rfl _ _ _ rfl (fun w hw => run_load_int (rci_int (ov_rce rcl w hw) hel)) (by first | rfl | omega) ?_; simp only [Act.put, putS]; go_big_quiet_on) | (refine quiet_loadAny (t := 66) rfl _ _ _ rfl (fun w hw => run_load_slp (imgC_u (ov_B i3 w hw))) (by first | rfl | omega) ?_; simp only [Act.put, putS]; go_big_quiet_on) | (refine quiet_buildIm rfl (nearR c) rfl ?_; simp only [Act.put, putS]; go_big_quiet_on) | (go_big_quiet_op; go_big_quiet_on)))
                refine wpQuiet_nil ?_
                (refine wpList_storeU rfl _ _ rfl _ rfl _ _ _ rfl i3 ?_; clear i3; intro wn ht hcn hzn; have hsz := B.size; replace hzn := Nat.le_of_eq hzn.symm; replace B := Chg.below B hcn (by omega) B.size; (try replace s1 := s1.of_eq (hcn.block _ s1.lt (by omega))); (try replace i2 := i2.of_eq (hcn.block _ i2.lt (by omega))); replace od := od.chg hcn (by omega); have i3 := ht; clear ht; simp only [Act.put, putS])
                refine wpList_nil ?_
                go_upto_region 9 with fail
                refine wp_region_lit ?_
                try simp only [List.getElem_toArray, List.getElem_cons_zero, List.getElem_cons_succ]
                refine wpList_chunk 1 (by kernel_rfl) ?_
                simp only [takS, Nat.reduceAdd]
                repeat (first | go_big_quiet_skip | (go_big_quiet_want; first | (refine quiet_loadAny (t := 68) rfl _ _ _ rfl (fun w hw => run_load_img (ov_B i3 w hw)) (by first | rfl | omega) ?_; simp only [Act.put, putS]; go_big_quiet_on) | (refine quiet_buildIm rfl (nearR c) rfl ?_; simp only [Act.put, putS]; go_big_quiet_on) | (go_big_quiet_op; go_big_quiet_on)))
                refine wpQuiet_nil ?_
                (refine wpList_storeB (t := 68) rfl _ _ rfl _ rfl _ rfl i2 (by kernel_rfl) rfl (by simp [rcA, imgC, Value.oneCell']) ?_; clear i2; intro wn ht hcn hzn; have hsz := B.size; replace hzn := Nat.le_of_eq hzn.symm; replace B := Chg.below B hcn (by omega) B.size; (try replace s1 := s1.of_eq (hcn.block _ s1.lt (by omega))); (try replace i3 := i3.of_eq (hcn.block _ i3.lt (by omega))); replace od := od.chg hcn (by omega); have i2 := ht; clear ht; simp only [Act.put, putS])
                refine wpList_nil ?_
                iterate 3 go_step
                refine bodyPost_ret (results_B (t := 68) rfl _ _ (b_i2) rfl i2 Try.isAgg68 (by kernel_rfl)) rfl ?_
                obtain ⟨g2', o2, e2, rc'⟩ := od.rs.at (by omega)
                obtain ⟨rfl, rfl⟩ : go = g2' ∧ oo = o2 := by simpa using e2
                exact ⟨P.drop 2, some ⟨go, oo + 2 * 4, none⟩, cp - 2, by rw [List.length_drop]; rfl, rse_drop rc' hcp (by omega), OKP.out.drop 2, by rw [List.length_drop]; omega, B⟩
            · have t3 : decide ((2 : Int) < (P.length : Int)) = false := decide_eq_false (by omega)
              have t4 : decide (2 < P.length) = false := decide_eq_false g3
              go_upto_region 7 with fail
              refine wp_region_lit ?_
              try simp only [List.getElem_toArray, List.getElem_cons_zero, List.getElem_cons_succ]
              refine wpList_chunk 11 (by kernel_rfl) ?_
              simp only [takS, Nat.reduceAdd]
              repeat (first | go_big_quiet_skip | (go_big_quiet_want; first | (refine quiet_loadAny (t := 3) rfl _ _ _ rfl (fun w hw => run_load_int (shoC_n (ov_B s1 w hw))) (by first | rfl | omega) ?_; simp only [Act.put, putS]; go_big_quiet_on) | (refine quiet_loadAny (t := 3) rfl _ _ _ rfl (fun w hw => run_load_int (rci_int (ov_rce rcl w hw) hel)) (by first | rfl | omega) ?_; simp only [Act.put, putS]; go_big_quiet_on) | (refine quiet_loadAny (t := 66) rfl _ _ _ rfl (fun w hw => run_load_slp (imgC_u (ov_B i3 w hw))) (by first | rfl | omega) ?_; simp only [Act.put, putS]; go_big_quiet_on) | (refine quiet_buildIm rfl (nearR c) rfl ?_; simp only [Act.put, putS]; go_big_quiet_on) | (go_big_quiet_op; go_big_quiet_on)))
              refine wpQuiet_nil ?_
              refine wpList_lenS (by first | rfl | simp [Region.wanted, yielded]) rfl Try.underlying66 rfl ?_
              simp only [Act.put, putS]
              refine wpList_chunk 2 (by kernel_rfl) ?_
              simp only [takS, Nat.reduceAdd]
              repeat (first | go_big_quiet_skip | (go_big_quiet_want; first | (refine quiet_buildIm rfl (nearR c) rfl ?_; simp only [Act.put, putS]; go_big_quiet_on) | (go_big_quiet_op; go_big_quiet_on)))
              refine wpQuiet_nil ?_
              refine wpList_nil ?_
              go_upto_region 9 with fail
              refine wp_region_lit ?_
              try simp only [List.getElem_toArray, List.getElem_cons_zero, List.getElem_cons_succ]
              refine wpList_chunk 1 (by kernel_rfl) ?_
              simp only [takS, Nat.reduceAdd]
              repeat (first | go_big_quiet_skip | (go_big_quiet_want; first | (refine quiet_loadAny (t := 68) rfl _ _ _ rfl (fun w hw => run_load_img (ov_B i3 w hw)) (by first | rfl | omega) ?_; simp only [Act.put, putS]; go_big_quiet_on) | (refine quiet_buildIm rfl (nearR c) rfl ?_; simp only [Act.put, putS]; go_big_quiet_on) | (go_big_quiet_op; go_big_quiet_on)))
              refine wpQuiet_nil ?_
              (refine wpList_storeB (t := 68) rfl _ _ rfl _ rfl _ rfl i2 (by kernel_rfl) rfl (by simp [rcA, imgC, Value.oneCell']) ?_; clear i2; intro wn ht hcn hzn; have hsz := B.size; replace hzn := Nat.le_of_eq hzn.symm; replace B := Chg.below B hcn (by omega) B.size; (try replace s1 := s1.of_eq (hcn.block _ s1.lt (by omega))); (try replace i3 := i3.of_eq (hcn.block _ i3.lt (by omega))); replace od := od.chg hcn (by omega); have i2 := ht; clear ht; simp only [Act.put, putS])
              refine wpList_nil ?_
              iterate 3 go_step
              refine bodyPost_ret (results_B (t := 68) rfl _ _ (b_i2) rfl i2 Try.isAgg68 (by kernel_rfl)) rfl ?_
              exact ⟨P, _, _, rfl, od.rs, OKP.out, by omega, B⟩
          · have t2 : decide (less < 3) = false := decide_eq_false g2
            go_upto_region 7 with fail
            refine wp_region_lit ?_
            try simp only [List.getElem_toArray, List.getElem_cons_zero, List.getElem_cons_succ]
            refine wpList_chunk 11 (by kernel_rfl) ?_
            simp only [takS, Nat.reduceAdd]
            repeat (first | go_big_quiet_skip | (go_big_quiet_want; first | (refine quiet_loadAny (t := 3) rfl _ _ _ rfl (fun w hw => run_load_int (shoC_n (ov_B s1 w hw))) (by first | rfl | omega) ?_; simp only [Act.put, putS]; go_big_quiet_on) | (refine quiet_loadAny (t := 3) rfl _ _ _ rfl (fun w hw => run_load_int (rci_int (ov_rce rcl w hw) hel)) (by first | rfl | omega) ?_; simp only [Act.put, putS]; go_big_quiet_on) | (refine quiet_loadAny (t := 66) rfl _ _ _ rfl (fun w hw => run_load_slp (imgC_u (ov_B i3 w hw))) (by first | rfl | omega) ?_; simp only [Act.put, putS]; go_big_quiet_on) | (refine quiet_buildIm rfl (nearR c) rfl ?_; simp only [Act.put, putS]; go_big_quiet_on) | (go_big_quiet_op; go_big_quiet_on)))
            refine wpQuiet_nil ?_
            refine wpList_skip (by first | rfl | simp [Region.wanted, yielded]) ?_
            simp only [Act.put, putS]
            refine wpList_chunk 2 (by kernel_rfl) ?_
            simp only [takS, Nat.reduceAdd]
            repeat (first | go_big_quiet_skip | (go_big_quiet_want; first | (refine quiet_buildIm rfl (nearR c) rfl ?_; simp only [Act.put, putS]; go_big_quiet_on) | (go_big_quiet_op; go_big_quiet_on)))
            refine wpQuiet_nil ?_
            refine wpList_nil ?_
            go_upto_region 9 with fail
            refine wp_region_lit ?_
            try simp only [List.getElem_toArray, List.getElem_cons_zero, List.getElem_cons_succ]
            refine wpList_chunk 1 (by kernel_rfl) ?_
            simp only [takS, Nat.reduceAdd]
            repeat (first | go_big_quiet_skip | (go_big_quiet_want; first | (refine quiet_loadAny (t := 68) rfl _ _ _ rfl (fun w hw => run_load_img (ov_B i3 w hw)) (by first | rfl | omega) ?_; simp only [Act.put, putS]; go_big_quiet_on) | (refine quiet_buildIm rfl (nearR c) rfl ?_; simp only [Act.put, putS]; go_big_quiet_on) | (go_big_quiet_op; go_big_quiet_on)))
            refine wpQuiet_nil ?_
            (refine wpList_storeB (t := 68) rfl _ _ rfl _ rfl _ rfl i2 (by kernel_rfl) rfl (by simp [rcA, imgC, Value.oneCell']) ?_; clear i2; intro wn ht hcn hzn; have hsz := B.size; replace hzn := Nat.le_of_eq hzn.symm; replace B := Chg.below B hcn (by omega) B.size; (try replace s1 := s1.of_eq (hcn.block _ s1.lt (by omega))); (try replace i3 := i3.of_eq (hcn.block _ i3.lt (by omega))); replace od := od.chg hcn (by omega); have i2 := ht; clear ht; simp only [Act.put, putS])
            refine wpList_nil ?_
            iterate 3 go_step
            refine bodyPost_ret (results_B (t := 68) rfl _ _ (b_i2) rfl i2 Try.isAgg68 (by kernel_rfl)) rfl ?_
            exact ⟨P, _, _, rfl, od.rs, OKP.out, by omega, B⟩
        · have t1 : decide (0 < less) = false := decide_eq_false g1
          go_upto_region 7 with fail
          refine wp_region_lit ?_
          try simp only [List.getElem_toArray, List.getElem_cons_zero, List.getElem_cons_succ]
          refine wpList_chunk 11 (by kernel_rfl) ?_
          simp only [takS, Nat.reduceAdd]
          repeat (first | go_big_quiet_skip | (go_big_quiet_want; first | (refine quiet_loadAny (t := 3) rfl _ _ _ rfl (fun w hw => run_load_int (shoC_n (ov_B s1 w hw))) (by first | rfl | omega) ?_; simp only [Act.put, putS]; go_big_quiet_on) | (refine quiet_loadAny (t := 3) rfl _ _ _ rfl (fun w hw => run_load_int (rci_int (ov_rce rcl w hw) hel)) (by first | rfl | omega) ?_; simp only [Act.put, putS]; go_big_quiet_on) | (refine quiet_loadAny (t := 66) rfl _ _ _ rfl (fun w hw => run_load_slp (imgC_u (ov_B i3 w hw))) (by first | rfl | omega) ?_; simp only [Act.put, putS]; go_big_quiet_on) | (refine quiet_buildIm rfl (nearR c) rfl ?_; simp only [Act.put, putS]; go_big_quiet_on) | (go_big_quiet_op; go_big_quiet_on)))
          refine wpQuiet_nil ?_
          refine wpList_skip (by first | rfl | simp [Region.wanted, yielded]) ?_
          simp only [Act.put, putS]
          refine wpList_chunk 2 (by kernel_rfl) ?_
          simp only [takS, Nat.reduceAdd]
          repeat (first | go_big_quiet_skip | (go_big_quiet_want; first | (refine quiet_buildIm rfl (nearR c) rfl ?_; simp only [Act.put, putS]; go_big_quiet_on) | (go_big_quiet_op; go_big_quiet_on)))
          refine wpQuiet_nil ?_
          refine wpList_nil ?_
          go_upto_region 9 with fail
          refine wp_region_lit ?_
          try simp only [List.getElem_toArray, List.getElem_cons_zero, List.getElem_cons_succ]
          refine wpList_chunk 1 (by kernel_rfl) ?_
          simp only [takS, Nat.reduceAdd]
          repeat (first | go_big_quiet_skip | (go_big_quiet_want; first | (refine quiet_loadAny (t := 68) rfl _ _ _ rfl (fun w hw => run_load_img (ov_B i3 w hw)) (by first | rfl | omega) ?_; simp only [Act.put, putS]; go_big_quiet_on) | (refine quiet_buildIm rfl (nearR c) rfl ?_; simp only [Act.put, putS]; go_big_quiet_on) | (go_big_quiet_op; go_big_quiet_on)))
          refine wpQuiet_nil ?_
          (refine wpList_storeB (t := 68) rfl _ _ rfl _ rfl _ rfl i2 (by kernel_rfl) rfl (by simp [rcA, imgC, Value.oneCell']) ?_; clear i2; intro wn ht hcn hzn; have hsz := B.size; replace hzn := Nat.le_of_eq hzn.symm; replace B := Chg.below B hcn (by omega) B.size; (try replace s1 := s1.of_eq (hcn.block _ s1.lt (by omega))); (try replace i3 := i3.of_eq (hcn.block _ i3.lt (by omega))); replace od := od.chg hcn (by omega); have i2 := ht; clear ht; simp only [Act.put, putS])
          refine wpList_nil ?_
          iterate 3 go_step
          refine bodyPost_ret (results_B (t := 68) rfl _ _ (b_i2) rfl i2 Try.isAgg68 (by kernel_rfl)) rfl ?_
          exact ⟨P, _, _, rfl, od.rs, OKP.out, by omega, B⟩
    · have q1 : decide ((k : Int) < (n : Int)) = false := decide_eq_false (by omega)
      have q2 : decide (k < n) = false := decide_eq_false hk1
      go_upto_region 4 with fail
      refine wp_region_lit ?_
      try simp only [List.getElem_toArray, List.getElem_cons_zero, List.getElem_cons_succ]
      refine wpList_chunk 6 (by kernel_rfl) ?_
      simp only [takS, Nat.reduceAdd]
      repeat (first | go_big_quiet_skip | (go_big_quiet_want; first | (refine quiet_loadAny (t := 22) rfl _ _ _ rfl (fun w hw => run_load_sli (shoC_v (ov_B s1 w hw))) (by first | rfl | omega) ?_; simp only [Act.put, putS]; go_big_quiet_on) | (refine quiet_buildIm rfl (nearR c) rfl ?_; simp only [Act.put, putS]; go_big_quiet_on) | (go_big_quiet_op; go_big_quiet_on)))
      refine wpQuiet_nil ?_
      refine wpList_skip (by first | rfl | simp [Region.wanted, yielded]) ?_
      simp only [Act.put, putS]
      refine wpList_chunk 2 (by kernel_rfl) ?_
      simp only [takS, Nat.reduceAdd]
      repeat (first | go_big_quiet_skip | (go_big_quiet_want; first | (refine quiet_buildIm rfl (nearR c) rfl ?_; simp only [Act.put, putS]; go_big_quiet_on) | (go_big_quiet_op; go_big_quiet_on)))
      refine wpQuiet_nil ?_
      refine wpList_nil ?_
      by_cases g1 : 0 < less
      · have t1 : decide (0 < less) = true := decide_eq_true g1
        by_cases g2 : less < 3
        · have t2 : decide (less < 3) = true := decide_eq_true g2
          by_cases g3 : 2 < P.length
          · have t3 : decide ((2 : Int) < (P.length : Int)) = true := decide_eq_true (by omega)
            have t4 : decide (2 < P.length) = true := decide_eq_true g3
            obtain ⟨_, _, e1, hcp⟩ := od.rs.len
            simp only [Value.slice.injEq] at e1
            obtain ⟨rfl, _, rfl⟩ := e1
            obtain ⟨go, oo, rfl, rc⟩ := od.rs.at (by omega)
            clear rc
            go_upto_region 7 with fail
            refine wp_region_lit ?_
            try simp only [List.getElem_toArray, List.getElem_cons_zero, List.getElem_cons_succ]
            refine wpList_chunk 11 (by kernel_rfl) ?_
            simp only [takS, Nat.reduceAdd]
            repeat (first | go_big_quiet_skip | (go_big_quiet_want; first | (refine quiet_loadAny (t := 3) rfl _ _ _ rfl (fun w hw => run_load_int (shoC_n (ov_B s1 w hw))) (by first | rfl | omega) ?_; simp only [Act.put, putS]; go_big_quiet_on) | (refine quiet_loadAny (t := 3) rfl _ _ _ rfl (fun w hw => run_load_int (rci_int (ov_rce rcl w hw) hel)) (by first | rfl | omega) ?_; simp only [Act.put, putS]; go_big_quiet_on) | (refine quiet_loadAny (t := 66) rfl _ _ _ rfl (fun w hw => run_load_slp (imgC_u (ov_B i3 w hw))) (by first | rfl | omega) ?_; simp only [Act.put, putS]; go_big_quiet_on) | (refine quiet_buildIm rfl (nearR c) rfl ?_; simp only [Act.put, putS]; go_big_quiet_on) | (go_big_quiet_op; go_big_quiet_on)))
            refine wpQuiet_nil ?_
            refine wpList_lenS (by first | rfl | simp [Region.wanted, yielded]) rfl Try.underlying66 rfl ?_
            simp only [Act.put, putS]
            refine wpList_chunk 2 (by kernel_rfl) ?_
            simp only [takS, Nat.reduceAdd]
            repeat (first | go_big_quiet_skip | (go_big_quiet_want; first | (refine quiet_buildIm rfl (nearR c) rfl ?_; simp only [Act.put, putS]; go_big_quiet_on) | (go_big_quiet_op; go_big_quiet_on)))
            refine wpQuiet_nil ?_
            refine wpList_nil ?_
            have hl : less = 1 ∨ less = 2 := by omega
            rcases hl with rfl | rfl
            · skip
              go_upto_region 8 with fail
              refine wp_region_lit ?_
              try simp only [List.getElem_toArray, List.getElem_cons_zero, List.getElem_cons_succ]
              refine wpList_chunk 6 (by kernel_rfl) ?_
              simp only [takS, Nat.reduceAdd]
              repeat (first | go_big_quiet_skip | (go_big_quiet_want; first | (refine quiet_loadAny (t := 3) rfl _ _ _ rfl (fun w hw => run_load_int (shoC_n (ov_B s1 w hw))) (by first | rfl | omega) ?_; simp only [Act.put, putS]; go_big_quiet_on) | (refine quiet_loadAny (t := 3) rfl _ _ _ rfl (fun w hw => run_load_int (rci_int (ov_rce rcl w hw) hel)) (by first | rfl | omega) ?_; simp only [Act.put, putS]; go_big_quiet_on) | (refine quiet_loadAny (t := 66) rfl _ _ _ rfl (fun w hw => run_load_slp (imgC_u (ov_B i3 w hw))) (by first | rfl | omega) ?_; simp only [Act.put, putS]; go_big_quiet_on) | (refine quiet_buildIm rfl (nearR c) rfl ?_; simp only [Act.put, putS]; go_big_quiet_on) | (go_big_quiet_op; go_big_quiet_on)))
              refine wpQuiet_nil ?_
              (refine wpList_storeU rfl _ _ rfl _ rfl _ _ _ rfl i3 ?_; clear i3; intro wn ht hcn hzn; have hsz := B.size; replace hzn := Nat.le_of_eq hzn.symm; replace B := Chg.below B hcn (by omega) B.size; (try replace s1 := s1.of_eq (hcn.block _ s1.lt (by omega))); (try replace i2 := i2.of_eq (hcn.block _ i2.lt (by omega))); replace od := od.chg hcn (by omega); have i3 := ht; clear ht; simp only [Act.put, putS])
              refine wpList_nil ?_
              go_upto_region 9 with fail
              refine wp_region_lit ?_
              try simp only [List.getElem_toArray, List.getElem_cons_zero, List.getElem_cons_succ]
              refine wpList_chunk 1 (by kernel_rfl) ?_
              simp only [takS, Nat.reduceAdd]
              repeat (first | go_big_quiet_skip | (go_big_quiet_want; first | (refine quiet_loadAny (t := 68) rfl _ _ _ rfl (fun w hw => run_load_img (ov_B i3 w hw)) (by first | rfl | omega) ?_; simp only [Act.put, putS]; go_big_quiet_on) | (refine quiet_buildIm rfl (nearR c) rfl ?_; simp only [Act.put, putS]; go_big_quiet_on) | (go_big_quiet_op; go_big_quiet_on)))
              refine wpQuiet_nil ?_
              (refine wpList_storeB (t := 68) rfl _ _ rfl _ rfl _ rfl i2 (by kernel_rfl) rfl (by simp [rcA, imgC, Value.oneCell']) ?_; clear i2; intro wn ht hcn hzn; have hsz := B.size; replace hzn := Nat.le_of_eq hzn.symm; replace B := Chg.below B hcn (by omega) B.size; (try replace s1 := s1.of_eq (hcn.block _ s1.lt (by omega))); (try replace i3 := i3.of_eq (hcn.block _ i3.lt (by omega))); replace od := od.chg hcn (by omega); have i2 := ht; clear ht; simp only [Act.put, putS])
              refine wpList_nil ?_
              iterate 3 go_step
              refine bodyPost_ret (results_B (t := 68) rfl _ _ (b_i2) rfl i2 Try.isAgg68 (by kernel_rfl)) rfl ?_
              obtain ⟨g2', o2, e2, rc'⟩ := od.rs.at (by omega)
              obtain ⟨rfl, rfl⟩ : go = g2' ∧ oo = o2 := by simpa using e2
              exact ⟨P.drop 1, some ⟨go, oo + 1 * 4, none⟩, cp - 1, by rw [List.length_drop]; rfl, rse_drop rc' hcp (by omega), OKP.out.drop 1, by rw [List.length_drop]; omega, B⟩
            · skip
              go_upto_region 8 with fail
              refine wp_region_lit ?_
              try simp only [List.getElem_toArray, List.getElem_cons_zero, List.getElem_cons_succ]
              refine wpList_chunk 6 (by kernel_rfl) ?_
              simp only [takS, Nat.reduceAdd]
              repeat (first | go_big_quiet_skip | (go_big_quiet_want; first | (refine quiet_loadAny (t := 3) rfl _ _ _ rfl (fun w hw => run_load_int (shoC_n (ov_B s1 w hw))) (by first | rfl | omega) ?_; simp only [Act.put, putS]; go_big_quiet_on) | (refine quiet_loadAny (t := 3) rfl _ _ _ rfl (fun w hw => run_load_int (rci_int (ov_rce rcl w hw) hel)) (by first | rfl | omega) ?_; simp only [Act.put, putS]; go_big_quiet_on) | (refine quiet_loadAny (t := 66) rfl _ _ _ rfl (fun w hw => run_load_slp (imgC_u (ov_B i3 w hw))) (by first | rfl | omega) ?_; simp only [Act.put, putS]; go_big_quiet_on) | (refine quiet_buildIm rfl (nearR c) rfl ?_; simp only [Act.put, putS]; go_big_quiet_on) | (go_big_quiet_op; go_big_quiet_on)))
              refine wpQuiet_nil ?_
              (refine wpList_storeU rfl _ _ rfl _ rfl _ _ _ rfl i3 ?_; clear i3; intro wn ht hcn hzn; have hsz := B.size; replace hzn := Nat.le_of_eq hzn.symm; replace B := Chg.below B hcn (by omega) B.size; (try replace s1 := s1.of_eq (hcn.block _ s1.lt (by omega))); (try replace i2 := i2.of_eq (hcn.block _ i2.lt (by omega))); replace od := od.chg hcn (by omega); have i3 := ht; clear ht; simp only [Act.put, putS])
              refine wpList_nil ?_
              go_upto_region 9 with fail
              refine wp_region_lit ?_
              try simp only [List.getElem_toArray, List.getElem_cons_zero, List.getElem_cons_succ]
              refine wpList_chunk 1 (by kernel_rfl) ?_
              simp only [takS, Nat.reduceAdd]
              repeat (first | go_big_quiet_skip | (go_big_quiet_want; first | (refine quiet_loadAny (t := 68) rfl _ _ _ rfl (fun w hw => run_load_img (ov_B i3 w hw)) (by first | rfl | omega) ?_; simp only [Act.put, putS]; go_big_quiet_on) | (refine quiet_buildIm rfl (nearR c) rfl ?_; simp only [Act.put, putS]; go_big_quiet_on) | (go_big_quiet_op; go_big_quiet_on)))
              refine wpQuiet_nil ?_
              (refine wpList_storeB (t := 68) rfl _ _ rfl _ rfl _ rfl i2 (by kernel_rfl) rfl (by simp [rcA, imgC, Value.oneCell']) ?_; clear i2; intro wn ht hcn hzn; have hsz := B.size; replace hzn := Nat.le_of_eq hzn.symm; replace B := Chg.below B hcn (by omega) B.size; (try replace s1 := s1.of_eq (hcn.block _ s1.lt (by omega))); (try replace i3 := i3.of_eq (hcn.block _ i3.lt (by omega))); replace od := od.chg hcn (by omega); have i2 := ht; clear ht; simp only [Act.put, putS])
              refine wpList_nil ?_
              iterate 3 go_step
              refine bodyPost_ret (results_B (t := 68) rfl _ _ (b_i2) rfl i2 Try.isAgg68 (by kernel_rfl)) rfl ?_
              obtain ⟨g2', o2, e2, rc'⟩ := od.rs.at (by omega)
              obtain ⟨rfl, rfl⟩ : go = g2' ∧ oo = o2 := by simpa using e2
              exact ⟨P.drop 2, some ⟨go, oo + 2 * 4, none⟩, cp - 2, by rw [List.length_drop]; rfl, rse_drop rc' hcp (by omega), OKP.out.drop 2, by rw [List.length_drop]; omega, B⟩
          · have t3 : decide ((2 : Int) < (P.length : Int)) = false := decide_eq_false (by omega)
            have t4 : decide (2 < P.length) = false := decide_eq_false g3
            go_upto_region 7 with fail
            refine wp_region_lit ?_
            try simp only [List.getElem_toArray, List.getElem_cons_zero, List.getElem_cons_succ]
            refine wpList_chunk 11 (by kernel_rfl) ?_
            simp only [takS, Nat.reduceAdd]
            repeat (first | go_big_quiet_skip | (go_big_quiet_want; first | (refine quiet_loadAny (t := 3) rfl _ _ _ rfl (fun w hw => run_load_int (shoC_n (ov_B s1 w hw))) (by first | rfl | omega) ?_; simp only [Act.put, putS]; go_big_quiet_on) | (refine quiet_loadAny (t := 3) rfl _ _ _ rfl (fun w hw => run_load_int (rci_int (ov_rce rcl w hw) hel)) (by first | rfl | omega) ?_; simp only [Act.put, putS]; go_big_quiet_on) | (refine quiet_loadAny (t := 66) rfl _ _ _ rfl (fun w hw => run_load_slp (imgC_u (ov_B i3 w hw))) (by first | rfl | omega) ?_; simp only [Act.put, putS]; go_big_quiet_on) | (refine quiet_buildIm rfl (nearR c) rfl ?_; simp only [Act.put, putS]; go_big_quiet_on) | (go_big_quiet_op; go_big_quiet_on)))
            refine wpQuiet_nil ?_
            refine wpList_lenS (by first | rfl | simp [Region.wanted, yielded]) rfl Try.underlying66 rfl ?_
            simp only [Act.put, putS]
            refine wpList_chunk 2 (by kernel_rfl) ?_
            simp only [takS, Nat.reduceAdd]
            repeat (first | go_big_quiet_skip | (go_big_quiet_want; first | (refine quiet_buildIm rfl (nearR c) rfl ?_; simp only [Act.put, putS]; go_big_quiet_on) | (go_big_quiet_op; go_big_quiet_on)))
            refine wpQuiet_nil ?_
            refine wpList_nil ?_
            go_upto_region 9 with fail
            refine wp_region_lit ?_
            try simp only [List.getElem_toArray, List.getElem_cons_zero, List.getElem_cons_succ]
            refine wpList_chunk 1 (by kernel_rfl) ?_
            simp only [takS, Nat.reduceAdd]
            repeat (first | go_big_quiet_skip | (go_big_quiet_want; first | (refine quiet_loadAny (t := 68) rfl _ _ _ rfl (fun w hw => run_load_img (ov_B i3 w hw)) (by first | rfl | omega) ?_; simp only [Act.put, putS]; go_big_quiet_on) | (refine quiet_buildIm rfl (nearR c) rfl ?_; simp only [Act.put, putS]; go_big_quiet_on) | (go_big_quiet_op; go_big_quiet_on)))
            refine wpQuiet_nil ?_
            (refine wpList_storeB (t := 68) rfl _ _ rfl _ rfl _ rfl i2 (by kernel_rfl) rfl (by simp [rcA, imgC, Value.oneCell']) ?_; clear i2; intro wn ht hcn hzn; have hsz := B.size; replace hzn := Nat.le_of_eq hzn.symm; replace B := Chg.below B hcn (by omega) B.size; (try replace s1 := s1.of_eq (hcn.block _ s1.lt (by omega))); (try replace i3 := i3.of_eq (hcn.block _ i3.lt (by omega))); replace od := od.chg hcn (by omega); have i2 := ht; clear ht; simp only [Act.put, putS])
            refine wpList_nil ?_
            iterate 3 go_step
            refine bodyPost_ret (results_B (t := 68) rfl _ _ (b_i2) rfl i2 Try.isAgg68 (by kernel_rfl)) rfl ?_
            exact ⟨P, _, _, rfl, od.rs, OKP.out, by omega, B⟩
        · have t2 : decide (less < 3) = false := decide_eq_false g2
          go_upto_region 7 with fail
          refine wp_region_lit ?_
          try simp only [List.getElem_toArray, List.getElem_cons_zero, List.getElem_cons_succ]
          refine wpList_chunk 11 (by kernel_rfl) ?_
          simp only [takS, Nat.reduceAdd]
          repeat (first | go_big_quiet_skip | (go_big_quiet_want; first | (refine quiet_loadAny (t := 3) rfl _ _ _ rfl (fun w hw => run_load_int (shoC_n (ov_B s1 w hw))) (by first | rfl | omega) ?_; simp only [Act.put, putS]; go_big_quiet_on) | (refine quiet_loadAny (t := 3) rfl _ _ _ rfl (fun w hw => run_load_int (rci_int (ov_rce rcl w hw) hel)) (by first | rfl | omega) ?_; simp only [Act.put, putS]; go_big_quiet_on) | (refine quiet_loadAny (t := 66) rfl _ _ _ rfl (fun w hw => run_load_slp (imgC_u (ov_B i3 w hw))) (by first | rfl | omega) ?_; simp only [Act.put, putS]; go_big_quiet_on) | (refine quiet_buildIm rfl (nearR c) rfl ?_; simp only [Act.put, putS]; go_big_quiet_on) | (go_big_quiet_op; go_big_quiet_on)))
          refine wpQuiet_nil ?_
          refine wpList_skip (by first | rfl | simp [Region.wanted, yielded]) ?_
          simp only [Act.put, putS]
          refine wpList_chunk 2 (by kernel_rfl) ?_
          simp only [takS, Nat.reduceAdd]
          repeat (first | go_big_quiet_skip | (go_big_quiet_want; first | (refine quiet_buildIm rfl (nearR c) rfl ?_; simp only [Act.put, putS]; go_big_quiet_on) | (go_big_quiet_op; go_big_quiet_on)))
          refine wpQuiet_nil ?_
          refine wpList_nil ?_
          go_upto_region 9 with fail
          refine wp_region_lit ?_
          try simp only [List.getElem_toArray, List.getElem_cons_zero, List.getElem_cons_succ]
          refine wpList_chunk 1 (by kernel_rfl) ?_
          simp only [takS, Nat.reduceAdd]
          repeat (first | go_big_quiet_skip | (go_big_quiet_want; first | (refine quiet_loadAny (t := 68) rfl _ _ _ rfl (fun w hw => run_load_img (ov_B i3 w hw)) (by first | rfl | omega) ?_; simp only [Act.put, putS]; go_big_quiet_on) | (refine quiet_buildIm rfl (nearR c) rfl ?_; simp only [Act.put, putS]; go_big_quiet_on) | (go_big_quiet_op; go_big_quiet_on)))
          refine wpQuiet_nil ?_
          (refine wpList_storeB (t := 68) rfl _ _ rfl _ rfl _ rfl i2 (by kernel_rfl) rfl (by simp [rcA, imgC, Value.oneCell']) ?_; clear i2; intro wn ht hcn hzn; have hsz := B.size; replace hzn := Nat.le_of_eq hzn.symm; replace B := Chg.below B hcn (by omega) B.size; (try replace s1 := s1.of_eq (hcn.block _ s1.lt (by omega))); (try replace i3 := i3.of_eq (hcn.block _ i3.lt (by omega))); replace od := od.chg hcn (by omega); have i2 := ht; clear ht; simp only [Act.put, putS])
          refine wpList_nil ?_
          iterate 3 go_step
          refine bodyPost_ret (results_B (t := 68) rfl _ _ (b_i2) rfl i2 Try.isAgg68 (by kernel_rfl)) rfl ?_
          exact ⟨P, _, _, rfl, od.rs, OKP.out, by omega, B⟩
      · have t1 : decide (0 < less) = false := decide_eq_false g1
        go_upto_region 7 with fail
        refine wp_region_lit ?_
        try simp only [List.getElem_toArray, List.getElem_cons_zero, List.getElem_cons_succ]
        refine wpList_chunk 11 (by kernel_rfl) ?_
        simp only [takS, Nat.reduceAdd]
        repeat (first | go_big_quiet_skip | (go_big_quiet_want; first | (refine quiet_loadAny (t := 3) rfl _ _ _ rfl (fun w hw => run_load_int (shoC_n (ov_B s1 w hw))) (by first | rfl | omega) ?_; simp only [Act.put, putS]; go_big_quiet_on) | (refine quiet_loadAny (t := 3) rfl _ _ _ rfl (fun w hw => run_load_int (rci_int (ov_rce rcl w hw) hel)) (by first | rfl | omega) ?_; simp only [Act.put, putS]; go_big_quiet_on) | (refine quiet_loadAny (t := 66) rfl _ _ _ rfl (fun w hw => run_load_slp (imgC_u (ov_B i3 w hw))) (by first | rfl | omega) ?_; simp only [Act.put, putS]; go_big_quiet_on) | (refine quiet_buildIm rfl (nearR c) rfl ?_; simp only [Act.put, putS]; go_big_quiet_on) | (go_big_quiet_op; go_big_quiet_on)))
        refine wpQuiet_nil ?_
        refine wpList_skip (by first | rfl | simp [Region.wanted, yielded]) ?_
        simp only [Act.put, putS]
        refine wpList_chunk 2 (by kernel_rfl) ?_
        simp only [takS, Nat.reduceAdd]
        repeat (first | go_big_quiet_skip | (go_big_quiet_want; first | (refine quiet_buildIm rfl (nearR c) rfl ?_; simp only [Act.put, putS]; go_big_quiet_on) | (go_big_quiet_op; go_big_quiet_on)))
        refine wpQuiet_nil ?_
        refine wpList_nil ?_
        go_upto_region 9 with fail
        refine wp_region_lit ?_
        try simp only [List.getElem_toArray, List.getElem_cons_zero, List.getElem_cons_succ]
        refine wpList_chunk 1 (by kernel_rfl) ?_
        simp only [takS, Nat.reduceAdd]
        repeat (first | go_big_quiet_skip | (go_big_quiet_want; first | (refine quiet_loadAny (t := 68) rfl _ _ _ rfl (fun w hw => run_load_img (ov_B i3 w hw)) (by first | rfl | omega) ?_; simp only [Act.put, putS]; go_big_quiet_on) | (refine quiet_buildIm rfl (nearR c) rfl ?_; simp only [Act.put, putS]; go_big_quiet_on) | (go_big_quiet_op; go_big_quiet_on)))
        refine wpQuiet_nil ?_
        (refine wpList_storeB (t := 68) rfl _ _ rfl _ rfl _ rfl i2 (by kernel_rfl) rfl (by simp [rcA, imgC, Value.oneCell']) ?_; clear i2; intro wn ht hcn hzn; have hsz := B.size; replace hzn := Nat.le_of_eq hzn.symm; replace B := Chg.below B hcn (by omega) B.size; (try replace s1 := s1.of_eq (hcn.block _ s1.lt (by omega))); (try replace i3 := i3.of_eq (hcn.block _ i3.lt (by omega))); replace od := od.chg hcn (by omega); have i2 := ht; clear ht; simp only [Act.put, putS])
        refine wpList_nil ?_
        iterate 3 go_step
        refine bodyPost_ret (results_B (t := 68) rfl _ _ (b_i2) rfl i2 Try.isAgg68 (by kernel_rfl)) rfl ?_
        exact ⟨P, _, _, rfl, od.rs, OKP.out, by omega, B⟩
end Go.Proofs.Ytppccnjckiedlaa
namespace Go.Proofs.Ytppccnjckiedlaa
open Go.RowKit Go.Shelf Pl
open Go.ChangeShapes Go.WideShapes Go.ChangeAt
set_option linter.unusedVariables false
set_option linter.unusedSimpArgs false
set_option maxRecDepth 20000
section
variable {H : Type} {enc : TypeId × Value → H} {w : World} {base : Nat} {spare : Nat → Bool} {held : Bool}
theorem trod_rc {fuel : Nat} {c0 c1 c2 c3 : Value} {x : DataW H × List MemPlace} (h : DataW.trod enc Try.prog w base spare held fuel 64 [c0, c1, c2, c3] = some x) :
    ∃ c : Rc, c0 = .int .i64 c.x0 ∧ c1 = .int .i64 c.y0 ∧ c2 = .int .i64 c.x1 ∧ c3 = .int .i64 c.y1 := by
  have hC : Try.prog.cellsOf 3 = 1 := by kernel_rfl
  obtain ⟨y0, y1, y2, y3, n, hx, _, h0, h1, h2, h3⟩ := Joins.trod_struct4 Try.underlying64 h
  simp only [hC, List.drop_zero, List.drop_succ_cons, List.take_succ_cons, List.take_zero] at h0 h1 h2 h3
  obtain ⟨a, ea, wa⟩ := trod_int1 h0
  obtain ⟨b, eb, wb⟩ := trod_int1 h1
  obtain ⟨c, ec, wc⟩ := trod_int1 h2
  obtain ⟨e, ee, we⟩ := trod_int1 h3
  simp at ea eb ec ee
  exact ⟨⟨a, b, c, e⟩, ea, eb, ec, ee⟩
theorem open_shot {r : Reach} {b0 : Nat} {v : Value} {d : DataW H} {p : List MemPlace} (hv : Value.okWide Try.prog w r b0 92 v)
    (h : DataW.Trod enc Try.prog w base spare held 92 v d p) (hw : ∀ n ∈ d.weights Try.prog 92, n ≤ reachBytes) :
    ∃ (c : Rc) (vL : Value) (L : List Int) (less : Int), v = .agg (shoC c vL less) ∧ RSE inE vL L w ∧ L.length ≤ 17592186044416 := by
  obtain ⟨cs, rfl, hsz⟩ := okWide_struct Try.underlying92 hv
  have hC : Try.prog.cellsOf 3 = 1 := by kernel_rfl
  have hC4 : Try.prog.cellsOf 64 = 4 := by kernel_rfl
  have hCs : Try.prog.cellsOf 22 = 1 := by kernel_rfl
  have hCR : Try.prog.cellsOf 92 = 6 := by kernel_rfl
  obtain ⟨c0, c1, c2, c3, c4, c5, rfl⟩ := array6 (hsz.trans hCR)
  obtain ⟨fuel, hf⟩ := h
  obtain ⟨xs, n, _, hx, hl, hlen, hfs⟩ := DataW.trod_struct Try.underlying92 hf
  match xs, hlen with
  | [y0, y1, y2], _ =>
    have h0 := hfs 0 _ rfl
    have h1 := hfs 1 _ rfl
    have h2 := hfs 2 _ rfl
    simp only [Value.cells, hC, hC4, hCs, List.drop_zero, List.drop_succ_cons, List.take_succ_cons, List.take_zero, List.getElem_toArray, List.getElem_cons_zero, List.getElem_cons_succ] at h0 h1 h2
    have hd : d = .agg [y0.1, y1.1, y2.1] := (Prod.mk.inj hx).1
    have hww : ∀ n, n ∈ y1.1.weights Try.prog 22 → n ≤ reachBytes := fun n hn => by
      refine hw n ?_
      rw [hd]
      simp only [DataW.weights, Try.underlying92]
      simp only [List.map_cons, List.map_nil, DataW.weightsEach, List.mem_append]
      exact .inr (.inl hn)
    obtain ⟨c, e0, e1, e2, e3⟩ := trod_rc h0
    obtain ⟨vL, L, eL, rL, lL⟩ := trod_ints h1 hww
    obtain ⟨less, el, _⟩ := trod_int1 h2
    simp at eL el
    subst e0; subst e1; subst e2; subst e3; subst eL; subst el
    exact ⟨c, _, L, less, rfl, rL, lL⟩
end
def nu8 : Value → Bool
  | .int .u8 _ => false
  | _ => true
theorem RSE.chgS {v : Value} {L : List Px} {t : TypeId} {b : Nat} {cs : Array Value} {w w' : World} (h : RSE pxE v L w) (hb : AtB t w b cs) (hc : Chg b w w') (hs : cs.all nu8 = true) : RSE pxE v L w' := by
  rcases h with h | ⟨g, o, c, e, hl, sc⟩ | h
  · exact .inl h
  · refine .inr (.inl ⟨g, o, c, e, hl, fun hn => (sc hn).of_eq (hc.block _ (sc hn).lt ?_)⟩)
    rintro rfl
    have hx : L[0]? = some L[0] := List.getElem?_eq_getElem hn
    have h1 := (sc hn).2 0 _ hx 0 (by omega)
    simp only [Nat.zero_mul, Nat.add_zero] at h1
    rw [(cells_of_block hb).1] at h1
    have h2 : cs[o]? = some (.int .u8 L[0].r) := h1
    have h3 := Array.all_eq_true_iff_forall_mem.1 hs _ (Array.mem_of_getElem? h2)
    simp [nu8] at h3
  · exact .inr (.inr h)
/-- The rectangle of an image stored. -/
theorem wpList_storeIR {ops : Array Oper} {rest : List Oper} {o : Oper} {a : Act} {w : World} {Q : Exit → Act → World → Prop} (hg : o.guard = none) (x y : Operand) (ho : o.op = .store 64 x y) (b : Nat) (hx : a.eval x = .pointer (some ⟨b, 0, none⟩)) (r : Rc) (hy : a.eval y = .agg (rcA r)) {c : Rc} {u : Value} (ht : AtB 68 w b (imgC c u))
    (h : ∀ w', AtB 68 w' b (imgC r u) → Chg b w w' → w'.heap.size = w.heap.size → wpList Try.prog ops Q rest (a.put o.dst undef) w') : wpList Try.prog ops Q (o :: rest) a w := by
  have e : AtB 68 ((((w.setCell ⟨b, 0, none⟩ (.int .i64 r.x0)).setCell ⟨b, 1, none⟩ (.int .i64 r.y0)).setCell ⟨b, 2, none⟩ (.int .i64 r.x1)).setCell ⟨b, 3, none⟩ (.int .i64 r.y1)) b (imgC r u) := by
    have e1 : ((((imgC c u).setIfInBounds 0 (.int .i64 r.x0)).setIfInBounds 1 (.int .i64 r.y0)).setIfInBounds 2 (.int .i64 r.x1)).setIfInBounds 3 (.int .i64 r.y1) = imgC r u := rfl
    unfold AtB
    rw [← e1]
    exact heap_setCell_same _ _ _ _ _ _ (heap_setCell_same _ _ _ _ _ _ (heap_setCell_same _ _ _ _ _ _ (heap_setCell_same _ _ _ _ _ _ ht)))
  refine wpList_storeAny hg x y ho _ ?_ (h _ e (((((Chg.refl b w).setCell _).setCell _).setCell _).setCell _) (by simp only [World.size_setCell]))
  rw [hx, hy]
  have c0 : w.cell? ⟨b, 0, none⟩ = some (.int .i64 c.x0) := ht.cell 0 rfl
  have c1 : w.cell? ⟨b, 1, none⟩ = some (.int .i64 c.y0) := ht.cell 1 rfl
  have c2 : w.cell? ⟨b, 2, none⟩ = some (.int .i64 c.x1) := ht.cell 2 rfl
  have c3 : w.cell? ⟨b, 3, none⟩ = some (.int .i64 c.y1) := ht.cell 3 rfl
  have hf := fun j => ht.frozen j
  simp [go_sem, c0, c1, c2, c3, hf, rcA]
set_option maxHeartbeats 8000000 in
theorem walk_RasterPaste (q : RawQ) (vL vT : Value) (L T : List Int) (cS : Rc) (vS : Value) (S : List Int) (less : Int) (c : Rc) (hc : (Lit.int .i64 c.x0).wf = true ∧ (Lit.int .i64 c.y0).wf = true ∧ (Lit.int .i64 c.x1).wf = true ∧ (Lit.int .i64 c.y1).wf = true) (w : World) (hL : RSE inE vL L w) (hLn : L.length ≤ 17592186044416) (hT : RSE inE vT T w) (hTn : T.length ≤ 17592186044416) (hS : RSE inE vS S w) (hSn : S.length ≤ 17592186044416) :
    Calls Try.prog 12 #[.agg #[vL, .int .i64 q.at_, .int .i64 q.px, .int .i64 q.py, vT, .int .i64 q.how], .agg (shoC cS vS less), Rc.v c] w fun e w' => e = .returned (.bool true) ∧ Below w.heap.size w w' := by
  have B := Below.refl w.heap.size w
  have HL := Lib.hid hL
  have HT := Lib.hid hT
  have HS := Lib.hid hS
  clear hL hT hS
  have HN := Lib.hid (len_maxLen (Nat.le_trans (ofL_len q L T) (by omega)))
  simp only [Rc.v_A]
  go_enter Try.func12, Try.ntmps12
  go_upto_region 0 with fail
  refine wp_region_lit ?_
  try simp only [List.getElem_toArray, List.getElem_cons_zero, List.getElem_cons_succ]
  (refine wpList_boxB (t := 26) rfl _ rfl _ rfl ?_; intro b_q3 wn hle hge ht hbn hzn; have hsz := B.size; replace B := B.trans (hbn.mono (by omega)); have hln := Nat.lt_of_lt_of_eq (Nat.lt_succ_self _) hzn.symm; clear hzn; have q3 := ht; clear ht; simp only [Act.put, putS])
  (refine wpList_boxB (t := 92) rfl _ rfl _ rfl ?_; intro b_s4 wn hle hge ht hbn hzn; have hsz := B.size; replace B := B.trans (hbn.mono (by omega)); have hln := Nat.lt_of_lt_of_eq (Nat.lt_succ_self _) hzn.symm; clear hzn; (try first | (have hlt := q3.lt; replace q3 := q3.of_eq (hbn.block _ (by omega))) | replace q3 := q3.below (hbn.mono hle)); have s4 := ht; clear ht; simp only [Act.put, putS])
  (refine wpList_boxB (t := 64) rfl _ rfl _ rfl ?_; intro b_c5 wn hle hge ht hbn hzn; have hsz := B.size; replace B := B.trans (hbn.mono (by omega)); have hln := Nat.lt_of_lt_of_eq (Nat.lt_succ_self _) hzn.symm; clear hzn; (try first | (have hlt := q3.lt; replace q3 := q3.of_eq (hbn.block _ (by omega))) | replace q3 := q3.below (hbn.mono hle)); (try first | (have hlt := s4.lt; replace s4 := s4.of_eq (hbn.block _ (by omega))) | replace s4 := s4.below (hbn.mono hle)); have c5 := ht; clear ht; simp only [Act.put, putS])
  refine wpList_chunk 1 (by kernel_rfl) ?_
  simp only [takS, Nat.reduceAdd]
  repeat (first | go_big_quiet_skip | (go_big_quiet_want; first | (go_big_quiet_op; go_big_quiet_on)))
  refine wpQuiet_nil ?_
  refine wpList_nil ?_
  go_upto_region 1 with fail
  refine wp_region_lit ?_
  try simp only [List.getElem_toArray, List.getElem_cons_zero, List.getElem_cons_succ]
  refine wpList_callF (by first | rfl | simp [Region.wanted, yielded]) rfl (enters_of Try.func14 (by kernel_rfl) rfl) (by simp only [List.map_toArray, List.map_cons, List.map_nil, Act.eval, Array.getD_eq_getD_getElem?, List.getElem?_toArray, List.getElem?_cons_succ, List.getElem?_cons_zero, Option.getD_some]; rfl) ?_
  refine (sanity08 _).mono ?_
  rintro e wn ⟨rfl, hbn⟩
  have hsz := B.size
  have hzn := hbn.size
  replace B := B.trans (hbn.mono B.size)
  (try first | replace q3 := q3.of_eq (hbn.block _ q3.lt) | replace q3 := q3.below hbn)
  (try first | replace s4 := s4.of_eq (hbn.block _ s4.lt) | replace s4 := s4.below hbn)
  (try first | replace c5 := c5.of_eq (hbn.block _ c5.lt) | replace c5 := c5.below hbn)
  refine ⟨_, rfl, ?_⟩
  simp only [Act.put, putS]
  refine wpList_chunk 1 (by kernel_rfl) ?_
  simp only [takS, Nat.reduceAdd]
  repeat (first | go_big_quiet_skip | (go_big_quiet_want; first | (go_big_quiet_op; go_big_quiet_on)))
  refine wpQuiet_nil ?_
  refine wpList_nil ?_
  go_upto_region 2 with fail
  refine wp_region_lit ?_
  try simp only [List.getElem_toArray, List.getElem_cons_zero, List.getElem_cons_succ]
  refine wpList_chunk 1 (by kernel_rfl) ?_
  simp only [takS, Nat.reduceAdd]
  repeat (first | go_big_quiet_skip | (go_big_quiet_want; first | (refine quiet_loadAny (t := 26) rfl _ _ _ rfl (fun w hw => run_load_B (ov_B q3 w hw) Try.isAgg26 (by kernel_rfl)) (by rfl) ?_; simp only [Act.put, putS]; go_big_quiet_on) | (go_big_quiet_op; go_big_quiet_on)))
  refine wpQuiet_nil ?_
  refine wpList_callF (by first | rfl | simp [Region.wanted, yielded]) rfl (enters_of Try.func15 (by kernel_rfl) rfl) (by simp only [List.map_toArray, List.map_cons, List.map_nil, Act.eval, Array.getD_eq_getD_getElem?, List.getElem?_toArray, List.getElem?_cons_succ, List.getElem?_cons_zero, Option.getD_some]; rfl) ?_
  refine (L_ofO q _ _ L T _ (HL.out.below B) hLn (HT.out.below B) hTn).mono ?_
  rintro e wn ⟨a1, c1, rfl, rs1, hbn⟩
  have hsz := B.size
  have hzn := hbn.size
  replace B := B.trans (hbn.mono B.size)
  (try first | replace q3 := q3.of_eq (hbn.block _ q3.lt) | replace q3 := q3.below hbn)
  (try first | replace s4 := s4.of_eq (hbn.block _ s4.lt) | replace s4 := s4.below hbn)
  (try first | replace c5 := c5.of_eq (hbn.block _ c5.lt) | replace c5 := c5.below hbn)
  (try first | replace rs1 := rs1.of_eq (hbn.block _ rs1.lt) | replace rs1 := rs1.below hbn)
  refine ⟨_, rfl, ?_⟩
  simp only [Act.put, putS]
  (refine wpList_allocBk (t := 30) rfl _ (run_alloc_R _ _ rfl) ?_; intro b_r8 wn hle hge ht hbn hzn; have hsz := B.size; replace B := B.trans (hbn.mono (by omega)); have hln := Nat.lt_of_lt_of_eq (Nat.lt_succ_self _) hzn.symm; clear hzn; (try first | (have hlt := q3.lt; replace q3 := q3.of_eq (hbn.block _ (by omega))) | replace q3 := q3.below (hbn.mono hle)); (try first | (have hlt := s4.lt; replace s4 := s4.of_eq (hbn.block _ (by omega))) | replace s4 := s4.below (hbn.mono hle)); (try first | (have hlt := c5.lt; replace c5 := c5.of_eq (hbn.block _ (by omega))) | replace c5 := c5.below (hbn.mono hle)); (try first | (have hlt := rs1.lt; replace rs1 := rs1.of_eq (hbn.block _ (by omega))) | replace rs1 := rs1.below (hbn.mono hle)); have r8 := ht; clear ht; simp only [Act.put, putS])
  (refine wpList_storeB (t := 30) rfl _ _ rfl _ rfl _ rfl r8 (by kernel_rfl) rfl (by simp [rcA, imgC, shoC, Value.oneCell']) ?_; have r8o := r8; clear r8; intro wn ht hcn hzn; (try replace e1 := e1.chgS r8o hcn (by simp [rcA, imgC, shoC, nu8])); (try replace rs1 := rs1.chg r8o (by simp [rcA, imgC, shoC]) hcn); (try replace rs3 := rs3.chg r8o (by simp [rcA, imgC, shoC]) hcn); (try replace rs4 := rs4.chg r8o (by simp [rcA, imgC, shoC]) hcn); (try replace rs5 := rs5.chg r8o (by simp [rcA, imgC, shoC]) hcn); (try replace rs6 := rs6.chg r8o (by simp [rcA, imgC, shoC]) hcn); have hsz := B.size; replace hzn := Nat.le_of_eq hzn.symm; replace B := Chg.below B hcn (by omega) B.size; (try replace q3 := q3.of_eq (hcn.block _ q3.lt (by omega))); (try replace s4 := s4.of_eq (hcn.block _ s4.lt (by omega))); (try replace c5 := c5.of_eq (hcn.block _ c5.lt (by omega))); have r8 := ht; clear ht; simp only [Act.put, putS])
  refine wpList_nil ?_
  go_upto_region 3 with fail
  refine wp_region_lit ?_
  try simp only [List.getElem_toArray, List.getElem_cons_zero, List.getElem_cons_succ]
  refine wpList_chunk 1 (by kernel_rfl) ?_
  simp only [takS, Nat.reduceAdd]
  repeat (first | go_big_quiet_skip | (go_big_quiet_want; first | (refine quiet_loadAny (t := 92) rfl _ _ _ rfl (fun w hw => run_load_B (ov_B s4 w hw) Try.isAgg92 (by kernel_rfl)) (by rfl) ?_; simp only [Act.put, putS]; go_big_quiet_on) | (go_big_quiet_op; go_big_quiet_on)))
  refine wpQuiet_nil ?_
  refine wpList_callF (by first | rfl | simp [Region.wanted, yielded]) rfl (enters_of Try.func47 (by kernel_rfl) rfl) (by simp only [List.map_toArray, List.map_cons, List.map_nil, Act.eval, Array.getD_eq_getD_getElem?, List.getElem?_toArray, List.getElem?_cons_succ, List.getElem?_cons_zero, Option.getD_some]; rfl) ?_
  refine (L_image cS vS S less _ (HS.out.below B) hSn).mono ?_
  rintro e wn ⟨P, a_e, c_e, rfl, e1, okP, hP, hbn⟩
  have hsz := B.size
  have hzn := hbn.size
  replace B := B.trans (hbn.mono B.size)
  (try first | replace q3 := q3.of_eq (hbn.block _ q3.lt) | replace q3 := q3.below hbn)
  (try first | replace s4 := s4.of_eq (hbn.block _ s4.lt) | replace s4 := s4.below hbn)
  (try first | replace c5 := c5.of_eq (hbn.block _ c5.lt) | replace c5 := c5.below hbn)
  (try first | replace r8 := r8.of_eq (hbn.block _ r8.lt) | replace r8 := r8.below hbn)
  (try first | replace e1 := e1.of_eq (hbn.block _ e1.lt) | replace e1 := e1.below hbn)
  (try first | replace rs1 := rs1.of_eq (hbn.block _ rs1.lt) | replace rs1 := rs1.below hbn)
  refine ⟨_, rfl, ?_⟩
  simp only [Act.put, putS]
  (refine wpList_allocBk (t := 68) rfl _ (run_alloc_Im _ _ rfl) ?_; intro b_m9 wn hle hge ht hbn hzn; have hsz := B.size; replace B := B.trans (hbn.mono (by omega)); have hln := Nat.lt_of_lt_of_eq (Nat.lt_succ_self _) hzn.symm; clear hzn; (try first | (have hlt := q3.lt; replace q3 := q3.of_eq (hbn.block _ (by omega))) | replace q3 := q3.below (hbn.mono hle)); (try first | (have hlt := s4.lt; replace s4 := s4.of_eq (hbn.block _ (by omega))) | replace s4 := s4.below (hbn.mono hle)); (try first | (have hlt := c5.lt; replace c5 := c5.of_eq (hbn.block _ (by omega))) | replace c5 := c5.below (hbn.mono hle)); (try first | (have hlt := r8.lt; replace r8 := r8.of_eq (hbn.block _ (by omega))) | replace r8 := r8.below (hbn.mono hle)); (try first | (have hlt := e1.lt; replace e1 := e1.of_eq (hbn.block _ (by omega))) | replace e1 := e1.below (hbn.mono hle)); (try first | (have hlt := rs1.lt; replace rs1 := rs1.of_eq (hbn.block _ (by omega))) | replace rs1 := rs1.below (hbn.mono hle)); have m9 := ht; clear ht; simp only [Act.put, putS])
  (refine wpList_storeB (t := 68) rfl _ _ rfl _ rfl _ rfl m9 (by kernel_rfl) rfl (by simp [rcA, imgC, shoC, Value.oneCell']) ?_; have m9o := m9; clear m9; intro wn ht hcn hzn; (try replace e1 := e1.chgS m9o hcn (by simp [rcA, imgC, shoC, nu8])); (try replace rs1 := rs1.chg m9o (by simp [rcA, imgC, shoC]) hcn); (try replace rs3 := rs3.chg m9o (by simp [rcA, imgC, shoC]) hcn); (try replace rs4 := rs4.chg m9o (by simp [rcA, imgC, shoC]) hcn); (try replace rs5 := rs5.chg m9o (by simp [rcA, imgC, shoC]) hcn); (try replace rs6 := rs6.chg m9o (by simp [rcA, imgC, shoC]) hcn); have hsz := B.size; replace hzn := Nat.le_of_eq hzn.symm; replace B := Chg.below B hcn (by omega) B.size; (try replace q3 := q3.of_eq (hcn.block _ q3.lt (by omega))); (try replace s4 := s4.of_eq (hcn.block _ s4.lt (by omega))); (try replace c5 := c5.of_eq (hcn.block _ c5.lt (by omega))); (try replace r8 := r8.of_eq (hcn.block _ r8.lt (by omega))); (try replace e1 := e1.of_eq (hcn.block _ e1.lt (by omega))); have m9 := ht; clear ht; simp only [Act.put, putS])
  refine wpList_nil ?_
  have OKP := Lib.hid okP
  have HP := Lib.hid (show P.length ≤ maxLen from by unfold maxLen; omega)
  clear okP hP
  replace m9 : AtB 68 _ b_m9 (imgC (nearR cS) (.slice a_e P.length c_e)) := m9
  go_upto_region 4 with fail
  refine wp_region_lit ?_
  try simp only [List.getElem_toArray, List.getElem_cons_zero, List.getElem_cons_succ]
  refine wpList_chunk 2 (by kernel_rfl) ?_
  simp only [takS, Nat.reduceAdd]
  repeat (first | go_big_quiet_skip | (go_big_quiet_want; first | (refine quiet_loadAny (t := 30) rfl _ _ _ rfl (fun w hw => run_load_B (ov_B r8 w hw) Try.isAgg30 (by kernel_rfl)) (by rfl) ?_; simp only [Act.put, putS]; go_big_quiet_on) | (refine quiet_loadAny (t := 30) rfl _ _ _ rfl (fun w hw => run_load_B (ov_B r10 w hw) Try.isAgg30 (by kernel_rfl)) (by rfl) ?_; simp only [Act.put, putS]; go_big_quiet_on) | (refine quiet_loadAny (t := 30) rfl _ _ _ rfl (fun w hw => run_load_B (ov_B r14 w hw) Try.isAgg30 (by kernel_rfl)) (by rfl) ?_; simp only [Act.put, putS]; go_big_quiet_on) | (refine quiet_loadAny (t := 68) rfl _ _ _ rfl (fun w hw => run_load_img (ov_B m9 w hw)) (by first | rfl | omega) ?_; simp only [Act.put, putS]; go_big_quiet_on) | (refine quiet_loadAny (t := 68) rfl _ _ _ rfl (fun w hw => run_load_img (ov_B m13 w hw)) (by first | rfl | omega) ?_; simp only [Act.put, putS]; go_big_quiet_on) | (refine quiet_loadAny (t := 30) rfl _ _ _ rfl (fun w hw => run_load_ras ((ov_B g12 w hw).cell 0 rfl)) (by first | rfl | omega) ?_; simp only [Act.put, putS]; go_big_quiet_on) | (refine quiet_loadAny (t := 30) rfl _ _ _ rfl (fun w hw => run_load_ras ((ov_B g16 w hw).cell 0 rfl)) (by first | rfl | omega) ?_; simp only [Act.put, putS]; go_big_quiet_on) | (go_big_quiet_op; go_big_quiet_on)))
  refine wpQuiet_nil ?_
  refine wpList_callF (by first | rfl | simp [Region.wanted, yielded]) rfl (enters_of Try.func48 (by kernel_rfl) rfl) (by simp only [List.map_toArray, List.map_cons, List.map_nil, Act.eval, Array.getD_eq_getD_getElem?, List.getElem?_toArray, List.getElem?_cons_succ, List.getElem?_cons_zero, Option.getD_some]; rfl) ?_
  refine (P_PasteA _ (ofL q L T) (nearR cS) _ P _ rs1 (ofL_tok q L T) HN.out e1 HP.out OKP.out).mono ?_
  rintro e wn ⟨a3, c3, rfl, rs3, hbn⟩
  have hsz := B.size
  have hzn := hbn.size
  replace B := B.trans (hbn.mono B.size)
  (try first | replace q3 := q3.of_eq (hbn.block _ q3.lt) | replace q3 := q3.below hbn)
  (try first | replace s4 := s4.of_eq (hbn.block _ s4.lt) | replace s4 := s4.below hbn)
  (try first | replace c5 := c5.of_eq (hbn.block _ c5.lt) | replace c5 := c5.below hbn)
  (try first | replace r8 := r8.of_eq (hbn.block _ r8.lt) | replace r8 := r8.below hbn)
  (try first | replace m9 := m9.of_eq (hbn.block _ m9.lt) | replace m9 := m9.below hbn)
  (try first | replace r10 := r10.of_eq (hbn.block _ r10.lt) | replace r10 := r10.below hbn)
  (try first | replace g12 := g12.of_eq (hbn.block _ g12.lt) | replace g12 := g12.below hbn)
  (try first | replace m13 := m13.of_eq (hbn.block _ m13.lt) | replace m13 := m13.below hbn)
  (try first | replace r14 := r14.of_eq (hbn.block _ r14.lt) | replace r14 := r14.below hbn)
  (try first | replace g16 := g16.of_eq (hbn.block _ g16.lt) | replace g16 := g16.below hbn)
  (try first | replace e1 := e1.of_eq (hbn.block _ e1.lt) | replace e1 := e1.below hbn)
  (try first | replace rs1 := rs1.of_eq (hbn.block _ rs1.lt) | replace rs1 := rs1.below hbn)
  (try first | replace rs3 := rs3.of_eq (hbn.block _ rs3.lt) | replace rs3 := rs3.below hbn)
  refine ⟨_, rfl, ?_⟩
  simp only [Act.put, putS]
  refine wpList_chunk 3 (by kernel_rfl) ?_
  simp only [takS, Nat.reduceAdd]
  repeat (first | go_big_quiet_skip | (go_big_quiet_want; first | (go_big_quiet_op; go_big_quiet_on)))
  refine wpQuiet_nil ?_
  (refine wpList_allocBk (t := 30) rfl _ (run_alloc_R _ _ rfl) ?_; intro b_r10 wn hle hge ht hbn hzn; have hsz := B.size; replace B := B.trans (hbn.mono (by omega)); have hln := Nat.lt_of_lt_of_eq (Nat.lt_succ_self _) hzn.symm; clear hzn; (try first | (have hlt := q3.lt; replace q3 := q3.of_eq (hbn.block _ (by omega))) | replace q3 := q3.below (hbn.mono hle)); (try first | (have hlt := s4.lt; replace s4 := s4.of_eq (hbn.block _ (by omega))) | replace s4 := s4.below (hbn.mono hle)); (try first | (have hlt := c5.lt; replace c5 := c5.of_eq (hbn.block _ (by omega))) | replace c5 := c5.below (hbn.mono hle)); (try first | (have hlt := r8.lt; replace r8 := r8.of_eq (hbn.block _ (by omega))) | replace r8 := r8.below (hbn.mono hle)); (try first | (have hlt := m9.lt; replace m9 := m9.of_eq (hbn.block _ (by omega))) | replace m9 := m9.below (hbn.mono hle)); (try first | (have hlt := r10.lt; replace r10 := r10.of_eq (hbn.block _ (by omega))) | replace r10 := r10.below (hbn.mono hle)); (try first | (have hlt := g12.lt; replace g12 := g12.of_eq (hbn.block _ (by omega))) | replace g12 := g12.below (hbn.mono hle)); (try first | (have hlt := m13.lt; replace m13 := m13.of_eq (hbn.block _ (by omega))) | replace m13 := m13.below (hbn.mono hle)); (try first | (have hlt := r14.lt; replace r14 := r14.of_eq (hbn.block _ (by omega))) | replace r14 := r14.below (hbn.mono hle)); (try first | (have hlt := g16.lt; replace g16 := g16.of_eq (hbn.block _ (by omega))) | replace g16 := g16.below (hbn.mono hle)); (try first | (have hlt := e1.lt; replace e1 := e1.of_eq (hbn.block _ (by omega))) | replace e1 := e1.below (hbn.mono hle)); (try first | (have hlt := rs1.lt; replace rs1 := rs1.of_eq (hbn.block _ (by omega))) | replace rs1 := rs1.below (hbn.mono hle)); (try first | (have hlt := rs3.lt; replace rs3 := rs3.of_eq (hbn.block _ (by omega))) | replace rs3 := rs3.below (hbn.mono hle)); have r10 := ht; clear ht; simp only [Act.put, putS])
  (refine wpList_storeB (t := 30) rfl _ _ rfl _ rfl _ rfl r10 (by kernel_rfl) rfl (by simp [rcA, imgC, shoC, Value.oneCell']) ?_; have r10o := r10; clear r10; intro wn ht hcn hzn; (try replace e1 := e1.chgS r10o hcn (by simp [rcA, imgC, shoC, nu8])); (try replace rs1 := rs1.chg r10o (by simp [rcA, imgC, shoC]) hcn); (try replace rs3 := rs3.chg r10o (by simp [rcA, imgC, shoC]) hcn); (try replace rs4 := rs4.chg r10o (by simp [rcA, imgC, shoC]) hcn); (try replace rs5 := rs5.chg r10o (by simp [rcA, imgC, shoC]) hcn); (try replace rs6 := rs6.chg r10o (by simp [rcA, imgC, shoC]) hcn); have hsz := B.size; replace hzn := Nat.le_of_eq hzn.symm; replace B := Chg.below B hcn (by omega) B.size; (try replace q3 := q3.of_eq (hcn.block _ q3.lt (by omega))); (try replace s4 := s4.of_eq (hcn.block _ s4.lt (by omega))); (try replace c5 := c5.of_eq (hcn.block _ c5.lt (by omega))); (try replace r8 := r8.of_eq (hcn.block _ r8.lt (by omega))); (try replace m9 := m9.of_eq (hcn.block _ m9.lt (by omega))); (try replace g12 := g12.of_eq (hcn.block _ g12.lt (by omega))); (try replace m13 := m13.of_eq (hcn.block _ m13.lt (by omega))); (try replace r14 := r14.of_eq (hcn.block _ r14.lt (by omega))); (try replace g16 := g16.of_eq (hcn.block _ g16.lt (by omega))); (try replace e1 := e1.of_eq (hcn.block _ e1.lt (by omega))); have r10 := ht; clear ht; simp only [Act.put, putS])
  refine wpList_chunk 1 (by kernel_rfl) ?_
  simp only [takS, Nat.reduceAdd]
  repeat (first | go_big_quiet_skip | (go_big_quiet_want; first | (go_big_quiet_op; go_big_quiet_on)))
  refine wpQuiet_nil ?_
  refine wpList_nil ?_
  go_upto_region 5 with fail
  refine wp_region_lit ?_
  try simp only [List.getElem_toArray, List.getElem_cons_zero, List.getElem_cons_succ]
  refine wpList_chunk 2 (by kernel_rfl) ?_
  simp only [takS, Nat.reduceAdd]
  repeat (first | go_big_quiet_skip | (go_big_quiet_want; first | (refine quiet_loadAny (t := 30) rfl _ _ _ rfl (fun w hw => run_load_B (ov_B r8 w hw) Try.isAgg30 (by kernel_rfl)) (by rfl) ?_; simp only [Act.put, putS]; go_big_quiet_on) | (refine quiet_loadAny (t := 30) rfl _ _ _ rfl (fun w hw => run_load_B (ov_B r10 w hw) Try.isAgg30 (by kernel_rfl)) (by rfl) ?_; simp only [Act.put, putS]; go_big_quiet_on) | (refine quiet_loadAny (t := 30) rfl _ _ _ rfl (fun w hw => run_load_B (ov_B r14 w hw) Try.isAgg30 (by kernel_rfl)) (by rfl) ?_; simp only [Act.put, putS]; go_big_quiet_on) | (refine quiet_loadAny (t := 68) rfl _ _ _ rfl (fun w hw => run_load_img (ov_B m9 w hw)) (by first | rfl | omega) ?_; simp only [Act.put, putS]; go_big_quiet_on) | (refine quiet_loadAny (t := 68) rfl _ _ _ rfl (fun w hw => run_load_img (ov_B m13 w hw)) (by first | rfl | omega) ?_; simp only [Act.put, putS]; go_big_quiet_on) | (refine quiet_loadAny (t := 30) rfl _ _ _ rfl (fun w hw => run_load_ras ((ov_B g12 w hw).cell 0 rfl)) (by first | rfl | omega) ?_; simp only [Act.put, putS]; go_big_quiet_on) | (refine quiet_loadAny (t := 30) rfl _ _ _ rfl (fun w hw => run_load_ras ((ov_B g16 w hw).cell 0 rfl)) (by first | rfl | omega) ?_; simp only [Act.put, putS]; go_big_quiet_on) | (go_big_quiet_op; go_big_quiet_on)))
  refine wpQuiet_nil ?_
  refine wpList_callF (by first | rfl | simp [Region.wanted, yielded]) rfl (enters_of Try.func49 (by kernel_rfl) rfl) (by simp only [List.map_toArray, List.map_cons, List.map_nil, Act.eval, Array.getD_eq_getD_getElem?, List.getElem?_toArray, List.getElem?_cons_succ, List.getElem?_cons_zero, Option.getD_some]; rfl) ?_
  refine (R_PasteA _ (ofL q L T) (nearR cS) _ P _ rs1 (ofL_tok q L T) HN.out e1 HP.out OKP.out).mono ?_
  rintro e wn ⟨a4, c4, rfl, rs4, hbn⟩
  have hsz := B.size
  have hzn := hbn.size
  replace B := B.trans (hbn.mono B.size)
  (try first | replace q3 := q3.of_eq (hbn.block _ q3.lt) | replace q3 := q3.below hbn)
  (try first | replace s4 := s4.of_eq (hbn.block _ s4.lt) | replace s4 := s4.below hbn)
  (try first | replace c5 := c5.of_eq (hbn.block _ c5.lt) | replace c5 := c5.below hbn)
  (try first | replace r8 := r8.of_eq (hbn.block _ r8.lt) | replace r8 := r8.below hbn)
  (try first | replace m9 := m9.of_eq (hbn.block _ m9.lt) | replace m9 := m9.below hbn)
  (try first | replace r10 := r10.of_eq (hbn.block _ r10.lt) | replace r10 := r10.below hbn)
  (try first | replace g12 := g12.of_eq (hbn.block _ g12.lt) | replace g12 := g12.below hbn)
  (try first | replace m13 := m13.of_eq (hbn.block _ m13.lt) | replace m13 := m13.below hbn)
  (try first | replace r14 := r14.of_eq (hbn.block _ r14.lt) | replace r14 := r14.below hbn)
  (try first | replace g16 := g16.of_eq (hbn.block _ g16.lt) | replace g16 := g16.below hbn)
  (try first | replace e1 := e1.of_eq (hbn.block _ e1.lt) | replace e1 := e1.below hbn)
  (try first | replace rs1 := rs1.of_eq (hbn.block _ rs1.lt) | replace rs1 := rs1.below hbn)
  (try first | replace rs3 := rs3.of_eq (hbn.block _ rs3.lt) | replace rs3 := rs3.below hbn)
  (try first | replace rs4 := rs4.of_eq (hbn.block _ rs4.lt) | replace rs4 := rs4.below hbn)
  refine ⟨_, rfl, ?_⟩
  simp only [Act.put, putS]
  (refine wpList_allocBk (t := 50) rfl _ (run_alloc_G _ _ rfl) ?_; intro b_g12 wn hle hge ht hbn hzn; have hsz := B.size; replace B := B.trans (hbn.mono (by omega)); have hln := Nat.lt_of_lt_of_eq (Nat.lt_succ_self _) hzn.symm; clear hzn; (try first | (have hlt := q3.lt; replace q3 := q3.of_eq (hbn.block _ (by omega))) | replace q3 := q3.below (hbn.mono hle)); (try first | (have hlt := s4.lt; replace s4 := s4.of_eq (hbn.block _ (by omega))) | replace s4 := s4.below (hbn.mono hle)); (try first | (have hlt := c5.lt; replace c5 := c5.of_eq (hbn.block _ (by omega))) | replace c5 := c5.below (hbn.mono hle)); (try first | (have hlt := r8.lt; replace r8 := r8.of_eq (hbn.block _ (by omega))) | replace r8 := r8.below (hbn.mono hle)); (try first | (have hlt := m9.lt; replace m9 := m9.of_eq (hbn.block _ (by omega))) | replace m9 := m9.below (hbn.mono hle)); (try first | (have hlt := r10.lt; replace r10 := r10.of_eq (hbn.block _ (by omega))) | replace r10 := r10.below (hbn.mono hle)); (try first | (have hlt := g12.lt; replace g12 := g12.of_eq (hbn.block _ (by omega))) | replace g12 := g12.below (hbn.mono hle)); (try first | (have hlt := m13.lt; replace m13 := m13.of_eq (hbn.block _ (by omega))) | replace m13 := m13.below (hbn.mono hle)); (try first | (have hlt := r14.lt; replace r14 := r14.of_eq (hbn.block _ (by omega))) | replace r14 := r14.below (hbn.mono hle)); (try first | (have hlt := g16.lt; replace g16 := g16.of_eq (hbn.block _ (by omega))) | replace g16 := g16.below (hbn.mono hle)); (try first | (have hlt := e1.lt; replace e1 := e1.of_eq (hbn.block _ (by omega))) | replace e1 := e1.below (hbn.mono hle)); (try first | (have hlt := rs1.lt; replace rs1 := rs1.of_eq (hbn.block _ (by omega))) | replace rs1 := rs1.below (hbn.mono hle)); (try first | (have hlt := rs3.lt; replace rs3 := rs3.of_eq (hbn.block _ (by omega))) | replace rs3 := rs3.below (hbn.mono hle)); (try first | (have hlt := rs4.lt; replace rs4 := rs4.of_eq (hbn.block _ (by omega))) | replace rs4 := rs4.below (hbn.mono hle)); have g12 := ht; clear ht; simp only [Act.put, putS])
  (refine wpList_storeB (t := 50) rfl _ _ rfl _ rfl _ rfl g12 (by kernel_rfl) rfl (by simp [rcA, imgC, shoC, Value.oneCell']) ?_; have g12o := g12; clear g12; intro wn ht hcn hzn; (try replace e1 := e1.chgS g12o hcn (by simp [rcA, imgC, shoC, nu8])); (try replace rs1 := rs1.chg g12o (by simp [rcA, imgC, shoC]) hcn); (try replace rs3 := rs3.chg g12o (by simp [rcA, imgC, shoC]) hcn); (try replace rs4 := rs4.chg g12o (by simp [rcA, imgC, shoC]) hcn); (try replace rs5 := rs5.chg g12o (by simp [rcA, imgC, shoC]) hcn); (try replace rs6 := rs6.chg g12o (by simp [rcA, imgC, shoC]) hcn); have hsz := B.size; replace hzn := Nat.le_of_eq hzn.symm; replace B := Chg.below B hcn (by omega) B.size; (try replace q3 := q3.of_eq (hcn.block _ q3.lt (by omega))); (try replace s4 := s4.of_eq (hcn.block _ s4.lt (by omega))); (try replace c5 := c5.of_eq (hcn.block _ c5.lt (by omega))); (try replace r8 := r8.of_eq (hcn.block _ r8.lt (by omega))); (try replace m9 := m9.of_eq (hcn.block _ m9.lt (by omega))); (try replace r10 := r10.of_eq (hcn.block _ r10.lt (by omega))); (try replace m13 := m13.of_eq (hcn.block _ m13.lt (by omega))); (try replace r14 := r14.of_eq (hcn.block _ r14.lt (by omega))); (try replace g16 := g16.of_eq (hcn.block _ g16.lt (by omega))); (try replace e1 := e1.of_eq (hcn.block _ e1.lt (by omega))); have g12 := ht; clear ht; simp only [Act.put, putS])
  refine wpList_nil ?_
  go_upto_region 6 with fail
  refine wp_region_lit ?_
  try simp only [List.getElem_toArray, List.getElem_cons_zero, List.getElem_cons_succ]
  refine wpList_chunk 1 (by kernel_rfl) ?_
  simp only [takS, Nat.reduceAdd]
  repeat (first | go_big_quiet_skip | (go_big_quiet_want; first | (refine quiet_loadAny (t := 68) rfl _ _ _ rfl (fun w hw => run_load_img (ov_B m9 w hw)) (by first | rfl | omega) ?_; simp only [Act.put, putS]; go_big_quiet_on) | (refine quiet_loadAny (t := 68) rfl _ _ _ rfl (fun w hw => run_load_img (ov_B m13 w hw)) (by first | rfl | omega) ?_; simp only [Act.put, putS]; go_big_quiet_on) | (go_big_quiet_op; go_big_quiet_on)))
  refine wpQuiet_nil ?_
  (refine wpList_allocBk (t := 68) rfl _ (run_alloc_Im _ _ rfl) ?_; intro b_m13 wn hle hge ht hbn hzn; have hsz := B.size; replace B := B.trans (hbn.mono (by omega)); have hln := Nat.lt_of_lt_of_eq (Nat.lt_succ_self _) hzn.symm; clear hzn; (try first | (have hlt := q3.lt; replace q3 := q3.of_eq (hbn.block _ (by omega))) | replace q3 := q3.below (hbn.mono hle)); (try first | (have hlt := s4.lt; replace s4 := s4.of_eq (hbn.block _ (by omega))) | replace s4 := s4.below (hbn.mono hle)); (try first | (have hlt := c5.lt; replace c5 := c5.of_eq (hbn.block _ (by omega))) | replace c5 := c5.below (hbn.mono hle)); (try first | (have hlt := r8.lt; replace r8 := r8.of_eq (hbn.block _ (by omega))) | replace r8 := r8.below (hbn.mono hle)); (try first | (have hlt := m9.lt; replace m9 := m9.of_eq (hbn.block _ (by omega))) | replace m9 := m9.below (hbn.mono hle)); (try first | (have hlt := r10.lt; replace r10 := r10.of_eq (hbn.block _ (by omega))) | replace r10 := r10.below (hbn.mono hle)); (try first | (have hlt := g12.lt; replace g12 := g12.of_eq (hbn.block _ (by omega))) | replace g12 := g12.below (hbn.mono hle)); (try first | (have hlt := m13.lt; replace m13 := m13.of_eq (hbn.block _ (by omega))) | replace m13 := m13.below (hbn.mono hle)); (try first | (have hlt := r14.lt; replace r14 := r14.of_eq (hbn.block _ (by omega))) | replace r14 := r14.below (hbn.mono hle)); (try first | (have hlt := g16.lt; replace g16 := g16.of_eq (hbn.block _ (by omega))) | replace g16 := g16.below (hbn.mono hle)); (try first | (have hlt := e1.lt; replace e1 := e1.of_eq (hbn.block _ (by omega))) | replace e1 := e1.below (hbn.mono hle)); (try first | (have hlt := rs1.lt; replace rs1 := rs1.of_eq (hbn.block _ (by omega))) | replace rs1 := rs1.below (hbn.mono hle)); (try first | (have hlt := rs3.lt; replace rs3 := rs3.of_eq (hbn.block _ (by omega))) | replace rs3 := rs3.below (hbn.mono hle)); (try first | (have hlt := rs4.lt; replace rs4 := rs4.of_eq (hbn.block _ (by omega))) | replace rs4 := rs4.below (hbn.mono hle)); have m13 := ht; clear ht; simp only [Act.put, putS])
  (refine wpList_storeB (t := 68) rfl _ _ rfl _ rfl _ rfl m13 (by kernel_rfl) rfl (by simp [rcA, imgC, shoC, Value.oneCell']) ?_; have m13o := m13; clear m13; intro wn ht hcn hzn; (try replace e1 := e1.chgS m13o hcn (by simp [rcA, imgC, shoC, nu8])); (try replace rs1 := rs1.chg m13o (by simp [rcA, imgC, shoC]) hcn); (try replace rs3 := rs3.chg m13o (by simp [rcA, imgC, shoC]) hcn); (try replace rs4 := rs4.chg m13o (by simp [rcA, imgC, shoC]) hcn); (try replace rs5 := rs5.chg m13o (by simp [rcA, imgC, shoC]) hcn); (try replace rs6 := rs6.chg m13o (by simp [rcA, imgC, shoC]) hcn); have hsz := B.size; replace hzn := Nat.le_of_eq hzn.symm; replace B := Chg.below B hcn (by omega) B.size; (try replace q3 := q3.of_eq (hcn.block _ q3.lt (by omega))); (try replace s4 := s4.of_eq (hcn.block _ s4.lt (by omega))); (try replace c5 := c5.of_eq (hcn.block _ c5.lt (by omega))); (try replace r8 := r8.of_eq (hcn.block _ r8.lt (by omega))); (try replace m9 := m9.of_eq (hcn.block _ m9.lt (by omega))); (try replace r10 := r10.of_eq (hcn.block _ r10.lt (by omega))); (try replace g12 := g12.of_eq (hcn.block _ g12.lt (by omega))); (try replace r14 := r14.of_eq (hcn.block _ r14.lt (by omega))); (try replace g16 := g16.of_eq (hcn.block _ g16.lt (by omega))); (try replace e1 := e1.of_eq (hcn.block _ e1.lt (by omega))); have m13 := ht; clear ht; simp only [Act.put, putS])
  refine wpList_nil ?_
  replace m13 : AtB 68 _ b_m13 (imgC (nearR cS) (.slice a_e P.length c_e)) := m13
  go_upto_region 7 with fail
  refine wp_region_lit ?_
  try simp only [List.getElem_toArray, List.getElem_cons_zero, List.getElem_cons_succ]
  refine wpList_chunk 2 (by kernel_rfl) ?_
  simp only [takS, Nat.reduceAdd]
  repeat (first | go_big_quiet_skip | (go_big_quiet_want; first | (refine quiet_loadAny (t := 64) rfl _ _ _ rfl (fun w hw => run_load_B (ov_B c5 w hw) Try.isAgg64 (by kernel_rfl)) (by rfl) ?_; simp only [Act.put, putS]; go_big_quiet_on) | (go_big_quiet_op; go_big_quiet_on)))
  refine wpQuiet_nil ?_
  (refine wpList_storeIR rfl _ _ rfl _ rfl _ rfl m13 ?_; have m13o := m13; clear m13; intro wn ht hcn hzn; (try replace e1 := e1.chgS m13o hcn (by simp [imgC, nu8])); (try replace rs1 := rs1.chg m13o (by simp [imgC]) hcn); (try replace rs3 := rs3.chg m13o (by simp [imgC]) hcn); (try replace rs4 := rs4.chg m13o (by simp [imgC]) hcn); (try replace rs5 := rs5.chg m13o (by simp [imgC]) hcn); (try replace rs6 := rs6.chg m13o (by simp [imgC]) hcn); have hsz := B.size; replace hzn := Nat.le_of_eq hzn.symm; replace B := Chg.below B hcn (by omega) B.size; (try replace q3 := q3.of_eq (hcn.block _ q3.lt (by omega))); (try replace s4 := s4.of_eq (hcn.block _ s4.lt (by omega))); (try replace c5 := c5.of_eq (hcn.block _ c5.lt (by omega))); (try replace r8 := r8.of_eq (hcn.block _ r8.lt (by omega))); (try replace m9 := m9.of_eq (hcn.block _ m9.lt (by omega))); (try replace r10 := r10.of_eq (hcn.block _ r10.lt (by omega))); (try replace g12 := g12.of_eq (hcn.block _ g12.lt (by omega))); (try replace r14 := r14.of_eq (hcn.block _ r14.lt (by omega))); (try replace g16 := g16.of_eq (hcn.block _ g16.lt (by omega))); (try replace e1 := e1.of_eq (hcn.block _ e1.lt (by omega))); have m13 := ht; clear ht; simp only [Act.put, putS])
  refine wpList_nil ?_
  go_upto_region 8 with fail
  refine wp_region_lit ?_
  try simp only [List.getElem_toArray, List.getElem_cons_zero, List.getElem_cons_succ]
  refine wpList_chunk 2 (by kernel_rfl) ?_
  simp only [takS, Nat.reduceAdd]
  repeat (first | go_big_quiet_skip | (go_big_quiet_want; first | (refine quiet_loadAny (t := 30) rfl _ _ _ rfl (fun w hw => run_load_B (ov_B r8 w hw) Try.isAgg30 (by kernel_rfl)) (by rfl) ?_; simp only [Act.put, putS]; go_big_quiet_on) | (refine quiet_loadAny (t := 30) rfl _ _ _ rfl (fun w hw => run_load_B (ov_B r10 w hw) Try.isAgg30 (by kernel_rfl)) (by rfl) ?_; simp only [Act.put, putS]; go_big_quiet_on) | (refine quiet_loadAny (t := 30) rfl _ _ _ rfl (fun w hw => run_load_B (ov_B r14 w hw) Try.isAgg30 (by kernel_rfl)) (by rfl) ?_; simp only [Act.put, putS]; go_big_quiet_on) | (refine quiet_loadAny (t := 68) rfl _ _ _ rfl (fun w hw => run_load_img (ov_B m9 w hw)) (by first | rfl | omega) ?_; simp only [Act.put, putS]; go_big_quiet_on) | (refine quiet_loadAny (t := 68) rfl _ _ _ rfl (fun w hw => run_load_img (ov_B m13 w hw)) (by first | rfl | omega) ?_; simp only [Act.put, putS]; go_big_quiet_on) | (refine quiet_loadAny (t := 30) rfl _ _ _ rfl (fun w hw => run_load_ras ((ov_B g12 w hw).cell 0 rfl)) (by first | rfl | omega) ?_; simp only [Act.put, putS]; go_big_quiet_on) | (refine quiet_loadAny (t := 30) rfl _ _ _ rfl (fun w hw => run_load_ras ((ov_B g16 w hw).cell 0 rfl)) (by first | rfl | omega) ?_; simp only [Act.put, putS]; go_big_quiet_on) | (go_big_quiet_op; go_big_quiet_on)))
  refine wpQuiet_nil ?_
  refine wpList_callF (by first | rfl | simp [Region.wanted, yielded]) rfl (enters_of Try.func48 (by kernel_rfl) rfl) (by simp only [List.map_toArray, List.map_cons, List.map_nil, Act.eval, Array.getD_eq_getD_getElem?, List.getElem?_toArray, List.getElem?_cons_succ, List.getElem?_cons_zero, Option.getD_some]; rfl) ?_
  refine (P_PasteA _ (ofL q L T) (c) _ P _ rs1 (ofL_tok q L T) HN.out e1 HP.out OKP.out).mono ?_
  rintro e wn ⟨a5, c5', rfl, rs5, hbn⟩
  have hsz := B.size
  have hzn := hbn.size
  replace B := B.trans (hbn.mono B.size)
  (try first | replace q3 := q3.of_eq (hbn.block _ q3.lt) | replace q3 := q3.below hbn)
  (try first | replace s4 := s4.of_eq (hbn.block _ s4.lt) | replace s4 := s4.below hbn)
  (try first | replace c5 := c5.of_eq (hbn.block _ c5.lt) | replace c5 := c5.below hbn)
  (try first | replace r8 := r8.of_eq (hbn.block _ r8.lt) | replace r8 := r8.below hbn)
  (try first | replace m9 := m9.of_eq (hbn.block _ m9.lt) | replace m9 := m9.below hbn)
  (try first | replace r10 := r10.of_eq (hbn.block _ r10.lt) | replace r10 := r10.below hbn)
  (try first | replace g12 := g12.of_eq (hbn.block _ g12.lt) | replace g12 := g12.below hbn)
  (try first | replace m13 := m13.of_eq (hbn.block _ m13.lt) | replace m13 := m13.below hbn)
  (try first | replace r14 := r14.of_eq (hbn.block _ r14.lt) | replace r14 := r14.below hbn)
  (try first | replace g16 := g16.of_eq (hbn.block _ g16.lt) | replace g16 := g16.below hbn)
  (try first | replace e1 := e1.of_eq (hbn.block _ e1.lt) | replace e1 := e1.below hbn)
  (try first | replace rs1 := rs1.of_eq (hbn.block _ rs1.lt) | replace rs1 := rs1.below hbn)
  (try first | replace rs3 := rs3.of_eq (hbn.block _ rs3.lt) | replace rs3 := rs3.below hbn)
  (try first | replace rs4 := rs4.of_eq (hbn.block _ rs4.lt) | replace rs4 := rs4.below hbn)
  (try first | replace rs5 := rs5.of_eq (hbn.block _ rs5.lt) | replace rs5 := rs5.below hbn)
  refine ⟨_, rfl, ?_⟩
  simp only [Act.put, putS]
  refine wpList_chunk 3 (by kernel_rfl) ?_
  simp only [takS, Nat.reduceAdd]
  repeat (first | go_big_quiet_skip | (go_big_quiet_want; first | (go_big_quiet_op; go_big_quiet_on)))
  refine wpQuiet_nil ?_
  (refine wpList_allocBk (t := 30) rfl _ (run_alloc_R _ _ rfl) ?_; intro b_r14 wn hle hge ht hbn hzn; have hsz := B.size; replace B := B.trans (hbn.mono (by omega)); have hln := Nat.lt_of_lt_of_eq (Nat.lt_succ_self _) hzn.symm; clear hzn; (try first | (have hlt := q3.lt; replace q3 := q3.of_eq (hbn.block _ (by omega))) | replace q3 := q3.below (hbn.mono hle)); (try first | (have hlt := s4.lt; replace s4 := s4.of_eq (hbn.block _ (by omega))) | replace s4 := s4.below (hbn.mono hle)); (try first | (have hlt := c5.lt; replace c5 := c5.of_eq (hbn.block _ (by omega))) | replace c5 := c5.below (hbn.mono hle)); (try first | (have hlt := r8.lt; replace r8 := r8.of_eq (hbn.block _ (by omega))) | replace r8 := r8.below (hbn.mono hle)); (try first | (have hlt := m9.lt; replace m9 := m9.of_eq (hbn.block _ (by omega))) | replace m9 := m9.below (hbn.mono hle)); (try first | (have hlt := r10.lt; replace r10 := r10.of_eq (hbn.block _ (by omega))) | replace r10 := r10.below (hbn.mono hle)); (try first | (have hlt := g12.lt; replace g12 := g12.of_eq (hbn.block _ (by omega))) | replace g12 := g12.below (hbn.mono hle)); (try first | (have hlt := m13.lt; replace m13 := m13.of_eq (hbn.block _ (by omega))) | replace m13 := m13.below (hbn.mono hle)); (try first | (have hlt := r14.lt; replace r14 := r14.of_eq (hbn.block _ (by omega))) | replace r14 := r14.below (hbn.mono hle)); (try first | (have hlt := g16.lt; replace g16 := g16.of_eq (hbn.block _ (by omega))) | replace g16 := g16.below (hbn.mono hle)); (try first | (have hlt := e1.lt; replace e1 := e1.of_eq (hbn.block _ (by omega))) | replace e1 := e1.below (hbn.mono hle)); (try first | (have hlt := rs1.lt; replace rs1 := rs1.of_eq (hbn.block _ (by omega))) | replace rs1 := rs1.below (hbn.mono hle)); (try first | (have hlt := rs3.lt; replace rs3 := rs3.of_eq (hbn.block _ (by omega))) | replace rs3 := rs3.below (hbn.mono hle)); (try first | (have hlt := rs4.lt; replace rs4 := rs4.of_eq (hbn.block _ (by omega))) | replace rs4 := rs4.below (hbn.mono hle)); (try first | (have hlt := rs5.lt; replace rs5 := rs5.of_eq (hbn.block _ (by omega))) | replace rs5 := rs5.below (hbn.mono hle)); have r14 := ht; clear ht; simp only [Act.put, putS])
  (refine wpList_storeB (t := 30) rfl _ _ rfl _ rfl _ rfl r14 (by kernel_rfl) rfl (by simp [rcA, imgC, shoC, Value.oneCell']) ?_; have r14o := r14; clear r14; intro wn ht hcn hzn; (try replace e1 := e1.chgS r14o hcn (by simp [rcA, imgC, shoC, nu8])); (try replace rs1 := rs1.chg r14o (by simp [rcA, imgC, shoC]) hcn); (try replace rs3 := rs3.chg r14o (by simp [rcA, imgC, shoC]) hcn); (try replace rs4 := rs4.chg r14o (by simp [rcA, imgC, shoC]) hcn); (try replace rs5 := rs5.chg r14o (by simp [rcA, imgC, shoC]) hcn); (try replace rs6 := rs6.chg r14o (by simp [rcA, imgC, shoC]) hcn); have hsz := B.size; replace hzn := Nat.le_of_eq hzn.symm; replace B := Chg.below B hcn (by omega) B.size; (try replace q3 := q3.of_eq (hcn.block _ q3.lt (by omega))); (try replace s4 := s4.of_eq (hcn.block _ s4.lt (by omega))); (try replace c5 := c5.of_eq (hcn.block _ c5.lt (by omega))); (try replace r8 := r8.of_eq (hcn.block _ r8.lt (by omega))); (try replace m9 := m9.of_eq (hcn.block _ m9.lt (by omega))); (try replace r10 := r10.of_eq (hcn.block _ r10.lt (by omega))); (try replace g12 := g12.of_eq (hcn.block _ g12.lt (by omega))); (try replace m13 := m13.of_eq (hcn.block _ m13.lt (by omega))); (try replace g16 := g16.of_eq (hcn.block _ g16.lt (by omega))); (try replace e1 := e1.of_eq (hcn.block _ e1.lt (by omega))); have r14 := ht; clear ht; simp only [Act.put, putS])
  refine wpList_chunk 1 (by kernel_rfl) ?_
  simp only [takS, Nat.reduceAdd]
  repeat (first | go_big_quiet_skip | (go_big_quiet_want; first | (go_big_quiet_op; go_big_quiet_on)))
  refine wpQuiet_nil ?_
  refine wpList_nil ?_
  go_upto_region 9 with fail
  refine wp_region_lit ?_
  try simp only [List.getElem_toArray, List.getElem_cons_zero, List.getElem_cons_succ]
  refine wpList_chunk 2 (by kernel_rfl) ?_
  simp only [takS, Nat.reduceAdd]
  repeat (first | go_big_quiet_skip | (go_big_quiet_want; first | (refine quiet_loadAny (t := 30) rfl _ _ _ rfl (fun w hw => run_load_B (ov_B r8 w hw) Try.isAgg30 (by kernel_rfl)) (by rfl) ?_; simp only [Act.put, putS]; go_big_quiet_on) | (refine quiet_loadAny (t := 30) rfl _ _ _ rfl (fun w hw => run_load_B (ov_B r10 w hw) Try.isAgg30 (by kernel_rfl)) (by rfl) ?_; simp only [Act.put, putS]; go_big_quiet_on) | (refine quiet_loadAny (t := 30) rfl _ _ _ rfl (fun w hw => run_load_B (ov_B r14 w hw) Try.isAgg30 (by kernel_rfl)) (by rfl) ?_; simp only [Act.put, putS]; go_big_quiet_on) | (refine quiet_loadAny (t := 68) rfl _ _ _ rfl (fun w hw => run_load_img (ov_B m9 w hw)) (by first | rfl | omega) ?_; simp only [Act.put, putS]; go_big_quiet_on) | (refine quiet_loadAny (t := 68) rfl _ _ _ rfl (fun w hw => run_load_img (ov_B m13 w hw)) (by first | rfl | omega) ?_; simp only [Act.put, putS]; go_big_quiet_on) | (refine quiet_loadAny (t := 30) rfl _ _ _ rfl (fun w hw => run_load_ras ((ov_B g12 w hw).cell 0 rfl)) (by first | rfl | omega) ?_; simp only [Act.put, putS]; go_big_quiet_on) | (refine quiet_loadAny (t := 30) rfl _ _ _ rfl (fun w hw => run_load_ras ((ov_B g16 w hw).cell 0 rfl)) (by first | rfl | omega) ?_; simp only [Act.put, putS]; go_big_quiet_on) | (go_big_quiet_op; go_big_quiet_on)))
  refine wpQuiet_nil ?_
  refine wpList_callF (by first | rfl | simp [Region.wanted, yielded]) rfl (enters_of Try.func49 (by kernel_rfl) rfl) (by simp only [List.map_toArray, List.map_cons, List.map_nil, Act.eval, Array.getD_eq_getD_getElem?, List.getElem?_toArray, List.getElem?_cons_succ, List.getElem?_cons_zero, Option.getD_some]; rfl) ?_
  refine (R_PasteA _ (ofL q L T) (c) _ P _ rs1 (ofL_tok q L T) HN.out e1 HP.out OKP.out).mono ?_
  rintro e wn ⟨a6, c6, rfl, rs6, hbn⟩
  have hsz := B.size
  have hzn := hbn.size
  replace B := B.trans (hbn.mono B.size)
  (try first | replace q3 := q3.of_eq (hbn.block _ q3.lt) | replace q3 := q3.below hbn)
  (try first | replace s4 := s4.of_eq (hbn.block _ s4.lt) | replace s4 := s4.below hbn)
  (try first | replace c5 := c5.of_eq (hbn.block _ c5.lt) | replace c5 := c5.below hbn)
  (try first | replace r8 := r8.of_eq (hbn.block _ r8.lt) | replace r8 := r8.below hbn)
  (try first | replace m9 := m9.of_eq (hbn.block _ m9.lt) | replace m9 := m9.below hbn)
  (try first | replace r10 := r10.of_eq (hbn.block _ r10.lt) | replace r10 := r10.below hbn)
  (try first | replace g12 := g12.of_eq (hbn.block _ g12.lt) | replace g12 := g12.below hbn)
  (try first | replace m13 := m13.of_eq (hbn.block _ m13.lt) | replace m13 := m13.below hbn)
  (try first | replace r14 := r14.of_eq (hbn.block _ r14.lt) | replace r14 := r14.below hbn)
  (try first | replace g16 := g16.of_eq (hbn.block _ g16.lt) | replace g16 := g16.below hbn)
  (try first | replace e1 := e1.of_eq (hbn.block _ e1.lt) | replace e1 := e1.below hbn)
  (try first | replace rs1 := rs1.of_eq (hbn.block _ rs1.lt) | replace rs1 := rs1.below hbn)
  (try first | replace rs3 := rs3.of_eq (hbn.block _ rs3.lt) | replace rs3 := rs3.below hbn)
  (try first | replace rs4 := rs4.of_eq (hbn.block _ rs4.lt) | replace rs4 := rs4.below hbn)
  (try first | replace rs5 := rs5.of_eq (hbn.block _ rs5.lt) | replace rs5 := rs5.below hbn)
  (try first | replace rs6 := rs6.of_eq (hbn.block _ rs6.lt) | replace rs6 := rs6.below hbn)
  refine ⟨_, rfl, ?_⟩
  simp only [Act.put, putS]
  (refine wpList_allocBk (t := 50) rfl _ (run_alloc_G _ _ rfl) ?_; intro b_g16 wn hle hge ht hbn hzn; have hsz := B.size; replace B := B.trans (hbn.mono (by omega)); have hln := Nat.lt_of_lt_of_eq (Nat.lt_succ_self _) hzn.symm; clear hzn; (try first | (have hlt := q3.lt; replace q3 := q3.of_eq (hbn.block _ (by omega))) | replace q3 := q3.below (hbn.mono hle)); (try first | (have hlt := s4.lt; replace s4 := s4.of_eq (hbn.block _ (by omega))) | replace s4 := s4.below (hbn.mono hle)); (try first | (have hlt := c5.lt; replace c5 := c5.of_eq (hbn.block _ (by omega))) | replace c5 := c5.below (hbn.mono hle)); (try first | (have hlt := r8.lt; replace r8 := r8.of_eq (hbn.block _ (by omega))) | replace r8 := r8.below (hbn.mono hle)); (try first | (have hlt := m9.lt; replace m9 := m9.of_eq (hbn.block _ (by omega))) | replace m9 := m9.below (hbn.mono hle)); (try first | (have hlt := r10.lt; replace r10 := r10.of_eq (hbn.block _ (by omega))) | replace r10 := r10.below (hbn.mono hle)); (try first | (have hlt := g12.lt; replace g12 := g12.of_eq (hbn.block _ (by omega))) | replace g12 := g12.below (hbn.mono hle)); (try first | (have hlt := m13.lt; replace m13 := m13.of_eq (hbn.block _ (by omega))) | replace m13 := m13.below (hbn.mono hle)); (try first | (have hlt := r14.lt; replace r14 := r14.of_eq (hbn.block _ (by omega))) | replace r14 := r14.below (hbn.mono hle)); (try first | (have hlt := g16.lt; replace g16 := g16.of_eq (hbn.block _ (by omega))) | replace g16 := g16.below (hbn.mono hle)); (try first | (have hlt := e1.lt; replace e1 := e1.of_eq (hbn.block _ (by omega))) | replace e1 := e1.below (hbn.mono hle)); (try first | (have hlt := rs1.lt; replace rs1 := rs1.of_eq (hbn.block _ (by omega))) | replace rs1 := rs1.below (hbn.mono hle)); (try first | (have hlt := rs3.lt; replace rs3 := rs3.of_eq (hbn.block _ (by omega))) | replace rs3 := rs3.below (hbn.mono hle)); (try first | (have hlt := rs4.lt; replace rs4 := rs4.of_eq (hbn.block _ (by omega))) | replace rs4 := rs4.below (hbn.mono hle)); (try first | (have hlt := rs5.lt; replace rs5 := rs5.of_eq (hbn.block _ (by omega))) | replace rs5 := rs5.below (hbn.mono hle)); (try first | (have hlt := rs6.lt; replace rs6 := rs6.of_eq (hbn.block _ (by omega))) | replace rs6 := rs6.below (hbn.mono hle)); have g16 := ht; clear ht; simp only [Act.put, putS])
  (refine wpList_storeB (t := 50) rfl _ _ rfl _ rfl _ rfl g16 (by kernel_rfl) rfl (by simp [rcA, imgC, shoC, Value.oneCell']) ?_; have g16o := g16; clear g16; intro wn ht hcn hzn; (try replace e1 := e1.chgS g16o hcn (by simp [rcA, imgC, shoC, nu8])); (try replace rs1 := rs1.chg g16o (by simp [rcA, imgC, shoC]) hcn); (try replace rs3 := rs3.chg g16o (by simp [rcA, imgC, shoC]) hcn); (try replace rs4 := rs4.chg g16o (by simp [rcA, imgC, shoC]) hcn); (try replace rs5 := rs5.chg g16o (by simp [rcA, imgC, shoC]) hcn); (try replace rs6 := rs6.chg g16o (by simp [rcA, imgC, shoC]) hcn); have hsz := B.size; replace hzn := Nat.le_of_eq hzn.symm; replace B := Chg.below B hcn (by omega) B.size; (try replace q3 := q3.of_eq (hcn.block _ q3.lt (by omega))); (try replace s4 := s4.of_eq (hcn.block _ s4.lt (by omega))); (try replace c5 := c5.of_eq (hcn.block _ c5.lt (by omega))); (try replace r8 := r8.of_eq (hcn.block _ r8.lt (by omega))); (try replace m9 := m9.of_eq (hcn.block _ m9.lt (by omega))); (try replace r10 := r10.of_eq (hcn.block _ r10.lt (by omega))); (try replace g12 := g12.of_eq (hcn.block _ g12.lt (by omega))); (try replace m13 := m13.of_eq (hcn.block _ m13.lt (by omega))); (try replace r14 := r14.of_eq (hcn.block _ r14.lt (by omega))); (try replace e1 := e1.of_eq (hcn.block _ e1.lt (by omega))); have g16 := ht; clear ht; simp only [Act.put, putS])
  refine wpList_nil ?_
  go_upto_region 10 with fail
  refine wp_region_lit ?_
  try simp only [List.getElem_toArray, List.getElem_cons_zero, List.getElem_cons_succ]
  refine wpList_chunk 11 (by kernel_rfl) ?_
  simp only [takS, Nat.reduceAdd]
  repeat (first | go_big_quiet_skip | (go_big_quiet_want; first | (refine quiet_loadAny (t := 30) rfl _ _ _ rfl (fun w hw => run_load_B (ov_B r8 w hw) Try.isAgg30 (by kernel_rfl)) (by rfl) ?_; simp only [Act.put, putS]; go_big_quiet_on) | (refine quiet_loadAny (t := 30) rfl _ _ _ rfl (fun w hw => run_load_B (ov_B r10 w hw) Try.isAgg30 (by kernel_rfl)) (by rfl) ?_; simp only [Act.put, putS]; go_big_quiet_on) | (refine quiet_loadAny (t := 30) rfl _ _ _ rfl (fun w hw => run_load_B (ov_B r14 w hw) Try.isAgg30 (by kernel_rfl)) (by rfl) ?_; simp only [Act.put, putS]; go_big_quiet_on) | (refine quiet_loadAny (t := 46) rfl _ _ _ rfl (fun w hw => run_load_err ((ov_B g12 w hw).cell 1 rfl)) (by first | rfl | omega) ?_; simp only [Act.put, putS]; go_big_quiet_on) | (refine quiet_loadAny (t := 46) rfl _ _ _ rfl (fun w hw => run_load_err ((ov_B g16 w hw).cell 1 rfl)) (by first | rfl | omega) ?_; simp only [Act.put, putS]; go_big_quiet_on) | (refine quiet_loadAny (t := 30) rfl _ _ _ rfl (fun w hw => run_load_ras ((ov_B g12 w hw).cell 0 rfl)) (by first | rfl | omega) ?_; simp only [Act.put, putS]; go_big_quiet_on) | (refine quiet_loadAny (t := 30) rfl _ _ _ rfl (fun w hw => run_load_ras ((ov_B g16 w hw).cell 0 rfl)) (by first | rfl | omega) ?_; simp only [Act.put, putS]; go_big_quiet_on) | (go_big_quiet_op; go_big_quiet_on)))
  refine wpQuiet_nil ?_
  refine wpList_callF (by first | rfl | simp [Region.wanted, yielded]) rfl (enters_of Try.func30 (by kernel_rfl) rfl) (by simp only [List.map_toArray, List.map_cons, List.map_nil, Act.eval, Array.getD_eq_getD_getElem?, List.getElem?_toArray, List.getElem?_cons_succ, List.getElem?_cons_zero, Option.getD_some]; rfl) ?_
  refine (R_EqualS _ _ (pstR (nearR cS) P (ofL q L T)) _ rs3 rs4 (pstR_tok OKP.out (ofL_tok q L T)) (Nat.le_trans (pstR_len (nearR cS) P (ofL q L T)) (by unfold maxLen; omega))).mono ?_
  rintro e wn ⟨rfl, hbn⟩
  have hsz := B.size
  have hzn := hbn.size
  replace B := B.trans (hbn.mono B.size)
  (try first | replace q3 := q3.of_eq (hbn.block _ q3.lt) | replace q3 := q3.below hbn)
  (try first | replace s4 := s4.of_eq (hbn.block _ s4.lt) | replace s4 := s4.below hbn)
  (try first | replace c5 := c5.of_eq (hbn.block _ c5.lt) | replace c5 := c5.below hbn)
  (try first | replace r8 := r8.of_eq (hbn.block _ r8.lt) | replace r8 := r8.below hbn)
  (try first | replace m9 := m9.of_eq (hbn.block _ m9.lt) | replace m9 := m9.below hbn)
  (try first | replace r10 := r10.of_eq (hbn.block _ r10.lt) | replace r10 := r10.below hbn)
  (try first | replace g12 := g12.of_eq (hbn.block _ g12.lt) | replace g12 := g12.below hbn)
  (try first | replace m13 := m13.of_eq (hbn.block _ m13.lt) | replace m13 := m13.below hbn)
  (try first | replace r14 := r14.of_eq (hbn.block _ r14.lt) | replace r14 := r14.below hbn)
  (try first | replace g16 := g16.of_eq (hbn.block _ g16.lt) | replace g16 := g16.below hbn)
  (try first | replace e1 := e1.of_eq (hbn.block _ e1.lt) | replace e1 := e1.below hbn)
  (try first | replace rs1 := rs1.of_eq (hbn.block _ rs1.lt) | replace rs1 := rs1.below hbn)
  (try first | replace rs3 := rs3.of_eq (hbn.block _ rs3.lt) | replace rs3 := rs3.below hbn)
  (try first | replace rs4 := rs4.of_eq (hbn.block _ rs4.lt) | replace rs4 := rs4.below hbn)
  (try first | replace rs5 := rs5.of_eq (hbn.block _ rs5.lt) | replace rs5 := rs5.below hbn)
  (try first | replace rs6 := rs6.of_eq (hbn.block _ rs6.lt) | replace rs6 := rs6.below hbn)
  refine ⟨_, rfl, ?_⟩
  simp only [Act.put, putS]
  refine wpList_chunk 11 (by kernel_rfl) ?_
  simp only [takS, Nat.reduceAdd]
  repeat (first | go_big_quiet_skip | (go_big_quiet_want; first | (refine quiet_loadAny (t := 30) rfl _ _ _ rfl (fun w hw => run_load_B (ov_B r8 w hw) Try.isAgg30 (by kernel_rfl)) (by rfl) ?_; simp only [Act.put, putS]; go_big_quiet_on) | (refine quiet_loadAny (t := 30) rfl _ _ _ rfl (fun w hw => run_load_B (ov_B r10 w hw) Try.isAgg30 (by kernel_rfl)) (by rfl) ?_; simp only [Act.put, putS]; go_big_quiet_on) | (refine quiet_loadAny (t := 30) rfl _ _ _ rfl (fun w hw => run_load_B (ov_B r14 w hw) Try.isAgg30 (by kernel_rfl)) (by rfl) ?_; simp only [Act.put, putS]; go_big_quiet_on) | (refine quiet_loadAny (t := 46) rfl _ _ _ rfl (fun w hw => run_load_err ((ov_B g12 w hw).cell 1 rfl)) (by first | rfl | omega) ?_; simp only [Act.put, putS]; go_big_quiet_on) | (refine quiet_loadAny (t := 46) rfl _ _ _ rfl (fun w hw => run_load_err ((ov_B g16 w hw).cell 1 rfl)) (by first | rfl | omega) ?_; simp only [Act.put, putS]; go_big_quiet_on) | (refine quiet_loadAny (t := 30) rfl _ _ _ rfl (fun w hw => run_load_ras ((ov_B g12 w hw).cell 0 rfl)) (by first | rfl | omega) ?_; simp only [Act.put, putS]; go_big_quiet_on) | (refine quiet_loadAny (t := 30) rfl _ _ _ rfl (fun w hw => run_load_ras ((ov_B g16 w hw).cell 0 rfl)) (by first | rfl | omega) ?_; simp only [Act.put, putS]; go_big_quiet_on) | (go_big_quiet_op; go_big_quiet_on)))
  refine wpQuiet_nil ?_
  refine wpList_callF (by first | rfl | simp [Region.wanted, yielded]) rfl (enters_of Try.func30 (by kernel_rfl) rfl) (by simp only [List.map_toArray, List.map_cons, List.map_nil, Act.eval, Array.getD_eq_getD_getElem?, List.getElem?_toArray, List.getElem?_cons_succ, List.getElem?_cons_zero, Option.getD_some]; rfl) ?_
  refine (R_EqualS _ _ (pstR c P (ofL q L T)) _ rs5 rs6 (pstR_tok OKP.out (ofL_tok q L T)) (Nat.le_trans (pstR_len (c) P (ofL q L T)) (by unfold maxLen; omega))).mono ?_
  rintro e wn ⟨rfl, hbn⟩
  have hsz := B.size
  have hzn := hbn.size
  replace B := B.trans (hbn.mono B.size)
  (try first | replace q3 := q3.of_eq (hbn.block _ q3.lt) | replace q3 := q3.below hbn)
  (try first | replace s4 := s4.of_eq (hbn.block _ s4.lt) | replace s4 := s4.below hbn)
  (try first | replace c5 := c5.of_eq (hbn.block _ c5.lt) | replace c5 := c5.below hbn)
  (try first | replace r8 := r8.of_eq (hbn.block _ r8.lt) | replace r8 := r8.below hbn)
  (try first | replace m9 := m9.of_eq (hbn.block _ m9.lt) | replace m9 := m9.below hbn)
  (try first | replace r10 := r10.of_eq (hbn.block _ r10.lt) | replace r10 := r10.below hbn)
  (try first | replace g12 := g12.of_eq (hbn.block _ g12.lt) | replace g12 := g12.below hbn)
  (try first | replace m13 := m13.of_eq (hbn.block _ m13.lt) | replace m13 := m13.below hbn)
  (try first | replace r14 := r14.of_eq (hbn.block _ r14.lt) | replace r14 := r14.below hbn)
  (try first | replace g16 := g16.of_eq (hbn.block _ g16.lt) | replace g16 := g16.below hbn)
  (try first | replace e1 := e1.of_eq (hbn.block _ e1.lt) | replace e1 := e1.below hbn)
  (try first | replace rs1 := rs1.of_eq (hbn.block _ rs1.lt) | replace rs1 := rs1.below hbn)
  (try first | replace rs3 := rs3.of_eq (hbn.block _ rs3.lt) | replace rs3 := rs3.below hbn)
  (try first | replace rs4 := rs4.of_eq (hbn.block _ rs4.lt) | replace rs4 := rs4.below hbn)
  (try first | replace rs5 := rs5.of_eq (hbn.block _ rs5.lt) | replace rs5 := rs5.below hbn)
  (try first | replace rs6 := rs6.of_eq (hbn.block _ rs6.lt) | replace rs6 := rs6.below hbn)
  refine ⟨_, rfl, ?_⟩
  simp only [Act.put, putS]
  refine wpList_chunk 3 (by kernel_rfl) ?_
  simp only [takS, Nat.reduceAdd]
  repeat (first | go_big_quiet_skip | (go_big_quiet_want; first | (refine quiet_loadAny (t := 30) rfl _ _ _ rfl (fun w hw => run_load_B (ov_B r8 w hw) Try.isAgg30 (by kernel_rfl)) (by rfl) ?_; simp only [Act.put, putS]; go_big_quiet_on) | (refine quiet_loadAny (t := 30) rfl _ _ _ rfl (fun w hw => run_load_B (ov_B r10 w hw) Try.isAgg30 (by kernel_rfl)) (by rfl) ?_; simp only [Act.put, putS]; go_big_quiet_on) | (refine quiet_loadAny (t := 30) rfl _ _ _ rfl (fun w hw => run_load_B (ov_B r14 w hw) Try.isAgg30 (by kernel_rfl)) (by rfl) ?_; simp only [Act.put, putS]; go_big_quiet_on) | (refine quiet_loadAny (t := 30) rfl _ _ _ rfl (fun w hw => run_load_ras ((ov_B g12 w hw).cell 0 rfl)) (by first | rfl | omega) ?_; simp only [Act.put, putS]; go_big_quiet_on) | (refine quiet_loadAny (t := 30) rfl _ _ _ rfl (fun w hw => run_load_ras ((ov_B g16 w hw).cell 0 rfl)) (by first | rfl | omega) ?_; simp only [Act.put, putS]; go_big_quiet_on) | (go_big_quiet_op; go_big_quiet_on)))
  refine wpQuiet_nil ?_
  refine wpList_callF (by first | rfl | simp [Region.wanted, yielded]) rfl (enters_of Try.func16 (by kernel_rfl) rfl) (by simp only [List.map_toArray, List.map_cons, List.map_nil, Act.eval, Array.getD_eq_getD_getElem?, List.getElem?_toArray, List.getElem?_cons_succ, List.getElem?_cons_zero, Option.getD_some]; rfl) ?_
  refine (P_ValidB _ (pstR (nearR cS) P (ofL q L T)) true _ rs3 (pstR_tok OKP.out (ofL_tok q L T)) (Nat.le_trans (pstR_len (nearR cS) P (ofL q L T)) (by unfold maxLen; omega)) (pstR_valid _ _ _)).mono ?_
  rintro e wn ⟨rfl, hbn⟩
  have hsz := B.size
  have hzn := hbn.size
  replace B := B.trans (hbn.mono B.size)
  (try first | replace q3 := q3.of_eq (hbn.block _ q3.lt) | replace q3 := q3.below hbn)
  (try first | replace s4 := s4.of_eq (hbn.block _ s4.lt) | replace s4 := s4.below hbn)
  (try first | replace c5 := c5.of_eq (hbn.block _ c5.lt) | replace c5 := c5.below hbn)
  (try first | replace r8 := r8.of_eq (hbn.block _ r8.lt) | replace r8 := r8.below hbn)
  (try first | replace m9 := m9.of_eq (hbn.block _ m9.lt) | replace m9 := m9.below hbn)
  (try first | replace r10 := r10.of_eq (hbn.block _ r10.lt) | replace r10 := r10.below hbn)
  (try first | replace g12 := g12.of_eq (hbn.block _ g12.lt) | replace g12 := g12.below hbn)
  (try first | replace m13 := m13.of_eq (hbn.block _ m13.lt) | replace m13 := m13.below hbn)
  (try first | replace r14 := r14.of_eq (hbn.block _ r14.lt) | replace r14 := r14.below hbn)
  (try first | replace g16 := g16.of_eq (hbn.block _ g16.lt) | replace g16 := g16.below hbn)
  (try first | replace e1 := e1.of_eq (hbn.block _ e1.lt) | replace e1 := e1.below hbn)
  (try first | replace rs1 := rs1.of_eq (hbn.block _ rs1.lt) | replace rs1 := rs1.below hbn)
  (try first | replace rs3 := rs3.of_eq (hbn.block _ rs3.lt) | replace rs3 := rs3.below hbn)
  (try first | replace rs4 := rs4.of_eq (hbn.block _ rs4.lt) | replace rs4 := rs4.below hbn)
  (try first | replace rs5 := rs5.of_eq (hbn.block _ rs5.lt) | replace rs5 := rs5.below hbn)
  (try first | replace rs6 := rs6.of_eq (hbn.block _ rs6.lt) | replace rs6 := rs6.below hbn)
  refine ⟨_, rfl, ?_⟩
  simp only [Act.put, putS]
  refine wpList_chunk 3 (by kernel_rfl) ?_
  simp only [takS, Nat.reduceAdd]
  repeat (first | go_big_quiet_skip | (go_big_quiet_want; first | (refine quiet_loadAny (t := 30) rfl _ _ _ rfl (fun w hw => run_load_B (ov_B r8 w hw) Try.isAgg30 (by kernel_rfl)) (by rfl) ?_; simp only [Act.put, putS]; go_big_quiet_on) | (refine quiet_loadAny (t := 30) rfl _ _ _ rfl (fun w hw => run_load_B (ov_B r10 w hw) Try.isAgg30 (by kernel_rfl)) (by rfl) ?_; simp only [Act.put, putS]; go_big_quiet_on) | (refine quiet_loadAny (t := 30) rfl _ _ _ rfl (fun w hw => run_load_B (ov_B r14 w hw) Try.isAgg30 (by kernel_rfl)) (by rfl) ?_; simp only [Act.put, putS]; go_big_quiet_on) | (refine quiet_loadAny (t := 30) rfl _ _ _ rfl (fun w hw => run_load_ras ((ov_B g12 w hw).cell 0 rfl)) (by first | rfl | omega) ?_; simp only [Act.put, putS]; go_big_quiet_on) | (refine quiet_loadAny (t := 30) rfl _ _ _ rfl (fun w hw => run_load_ras ((ov_B g16 w hw).cell 0 rfl)) (by first | rfl | omega) ?_; simp only [Act.put, putS]; go_big_quiet_on) | (go_big_quiet_op; go_big_quiet_on)))
  refine wpQuiet_nil ?_
  refine wpList_callF (by first | rfl | simp [Region.wanted, yielded]) rfl (enters_of Try.func16 (by kernel_rfl) rfl) (by simp only [List.map_toArray, List.map_cons, List.map_nil, Act.eval, Array.getD_eq_getD_getElem?, List.getElem?_toArray, List.getElem?_cons_succ, List.getElem?_cons_zero, Option.getD_some]; rfl) ?_
  refine (P_ValidB _ (pstR c P (ofL q L T)) true _ rs5 (pstR_tok OKP.out (ofL_tok q L T)) (Nat.le_trans (pstR_len (c) P (ofL q L T)) (by unfold maxLen; omega)) (pstR_valid _ _ _)).mono ?_
  rintro e wn ⟨rfl, hbn⟩
  have hsz := B.size
  have hzn := hbn.size
  replace B := B.trans (hbn.mono B.size)
  (try first | replace q3 := q3.of_eq (hbn.block _ q3.lt) | replace q3 := q3.below hbn)
  (try first | replace s4 := s4.of_eq (hbn.block _ s4.lt) | replace s4 := s4.below hbn)
  (try first | replace c5 := c5.of_eq (hbn.block _ c5.lt) | replace c5 := c5.below hbn)
  (try first | replace r8 := r8.of_eq (hbn.block _ r8.lt) | replace r8 := r8.below hbn)
  (try first | replace m9 := m9.of_eq (hbn.block _ m9.lt) | replace m9 := m9.below hbn)
  (try first | replace r10 := r10.of_eq (hbn.block _ r10.lt) | replace r10 := r10.below hbn)
  (try first | replace g12 := g12.of_eq (hbn.block _ g12.lt) | replace g12 := g12.below hbn)
  (try first | replace m13 := m13.of_eq (hbn.block _ m13.lt) | replace m13 := m13.below hbn)
  (try first | replace r14 := r14.of_eq (hbn.block _ r14.lt) | replace r14 := r14.below hbn)
  (try first | replace g16 := g16.of_eq (hbn.block _ g16.lt) | replace g16 := g16.below hbn)
  (try first | replace e1 := e1.of_eq (hbn.block _ e1.lt) | replace e1 := e1.below hbn)
  (try first | replace rs1 := rs1.of_eq (hbn.block _ rs1.lt) | replace rs1 := rs1.below hbn)
  (try first | replace rs3 := rs3.of_eq (hbn.block _ rs3.lt) | replace rs3 := rs3.below hbn)
  (try first | replace rs4 := rs4.of_eq (hbn.block _ rs4.lt) | replace rs4 := rs4.below hbn)
  (try first | replace rs5 := rs5.of_eq (hbn.block _ rs5.lt) | replace rs5 := rs5.below hbn)
  (try first | replace rs6 := rs6.of_eq (hbn.block _ rs6.lt) | replace rs6 := rs6.below hbn)
  refine ⟨_, rfl, ?_⟩
  simp only [Act.put, putS]
  refine wpList_chunk 2 (by kernel_rfl) ?_
  simp only [takS, Nat.reduceAdd]
  repeat (first | go_big_quiet_skip | (go_big_quiet_want; first | (go_big_quiet_op; go_big_quiet_on)))
  refine wpQuiet_nil ?_
  refine wpList_nil ?_
  iterate 3 go_step
  go_ret
  exact ⟨rfl, B⟩
namespace rasterPaste
open Go.ChangeShapes Go.WideShapes Go.ChangeAt Go.RowKit
open Go.ChangeMaps (open_string shut_string)
set_option maxRecDepth 100000 in
theorem lifted (os : Os) (started : os.Started) (H : Type) (enc : TypeId × Value → H) :
    ReturnsInHanded {} Try.checked os 12 .any (Rows.rasterPasteSpec.pre6 enc Try.prog Try.f12 Rows.rasterPasteRow.domain false) (Rows.rasterPasteSpec.post enc Try.prog Try.f12 false true false false) := by
  refine returnsInHanded_of_change_sized (C := Try.checked) own started (by kernel_rfl) Try.func12
    (ChangeSpec.witness6 (enc := enc) (C := Try.checked) false ⟨#[], #[.agg #[.slice none 0 0, .int .i64 0, .int .i64 0, .int .i64 0, .slice none 0 0, .int .i64 0], .agg #[.int .i64 0, .int .i64 0, .int .i64 0, .int .i64 0, .slice none 0 0, .int .i64 0], .agg #[.int .i64 0, .int .i64 0, .int .i64 0, .int .i64 0]], []⟩ 8 (by kernel_rfl) (by kernel_rfl) (by kernel_rfl) (by kernel_rfl)) ?_
  intro W base args ds gs before hval0 hW hcnd hsz0 _
  have hval : ∀ (j : Nat) t v, Try.f12.params[j]? = some t → args[j]? = some v → Value.okWide Try.prog W .any base t v := hval0
  have hW' := hW
  obtain ⟨p, q, hA0, hV, rfl, hfz, hnd⟩ := hW
  have hA : DataW.TrodAll enc Try.prog W 0 (fun _ => true) true Try.f12.params.toList args.toList ds p := hA0
  rw [Try.params12] at hA hval hsz0
  obtain ⟨v0, vs0, d0, ds0, p0, q0, hargs, rfl, rfl, h0, r0⟩ := trodAll_cons hA
  obtain ⟨v1, vs1, d1, ds1, p1, q1, rfl, rfl, rfl, h1, r1⟩ := trodAll_cons r0
  obtain ⟨v2, vs2, d2, ds2, p2, q2, rfl, rfl, rfl, h2, r2⟩ := trodAll_cons r1
  obtain ⟨rfl, rfl, rfl⟩ := trodAll_nil r2
  obtain rfl : args = #[v0, v1, v2] := by cases args; simp_all
  obtain ⟨rfl, rfl⟩ := trodVars_none hV
  have hwt0 : ∀ n ∈ DataW.weights Try.prog 26 d0, n ≤ reachBytes := fun n hn => by simpa using List.all_eq_true.1 hsz0 n (DataW.weights_mem_each (j := 0) rfl rfl n hn)
  have hwt1 : ∀ n ∈ DataW.weights Try.prog 92 d1, n ≤ reachBytes := fun n hn => by simpa using List.all_eq_true.1 hsz0 n (DataW.weights_mem_each (j := 1) rfl rfl n hn)
  have k0 := h0
  have lt0 : ∀ x ∈ p0, x.block < W.heap.size := by obtain ⟨m, hm⟩ := k0; exact DataW.trod_lt m _ _ _ hm
  have k1 := h1
  have lt1 : ∀ x ∈ p1, x.block < W.heap.size := by obtain ⟨m, hm⟩ := k1; exact DataW.trod_lt m _ _ _ hm
  have k2 := h2
  have lt2 : ∀ x ∈ p2, x.block < W.heap.size := by obtain ⟨m, hm⟩ := k2; exact DataW.trod_lt m _ _ _ hm
  obtain ⟨a0, vl0, vt0, L0, T0, rfl, hL0, hLn0, hT0, hTn0⟩ := open_raw (hval 0 26 v0 rfl rfl) h0 hwt0
  obtain ⟨c1, vs1', L1, n1, rfl, hL1, hLn1⟩ := open_shot (hval 1 92 v1 rfl rfl) h1 hwt1
  obtain ⟨c2, rfl, wc2⟩ := open_rect (hval 2 64 v2 rfl rfl) h2
  clear hA0 hval0
  refine (walk_RasterPaste a0 vl0 vt0 L0 T0 c1 vs1' L1 n1 c2   wc2 W hL0 hLn0 hT0 hTn0 hL1 hLn1).mono fun e W' ⟨he, bel⟩ => ?_
  subst he
  exact ⟨_, rfl, _, _, _, [], _, [], hW', trodAll_mk1 (shut_bool Try.underlying4 _), (trodAll_cons_mk (Below.trod laidOut (by kernel_rfl) (of_decide_eq_true (by kernel_rfl)) k0 bel lt0) (trodAll_cons_mk (Below.trod laidOut (by kernel_rfl) (of_decide_eq_true (by kernel_rfl)) k1 bel lt1) (trodAll_cons_mk (Below.trod laidOut (by kernel_rfl) (of_decide_eq_true (by kernel_rfl)) k2 bel lt2) trodAll_mk0))), rfl, bel.frame _, fun h => by cases h⟩
theorem over : Rows.rasterPasteRow.holds Try.pinned (OpenSpec.ofChange Rows.rasterPasteSpec) :=
  OpenClaim.holds_of_wide 12 Try.f12 rfl rfl rfl rfl rfl rfl rfl ⟨rfl, rfl, rfl, rfl, rfl⟩ rfl rfl rfl rfl rfl (by kernel_rfl) Try.func12 (by kernel_rfl)
    (of_decide_eq_true (by kernel_rfl)) (by unfold Func.isWrapper; first | (rw [if_pos (by decide +kernel)]; kernel_rfl) | (rw [if_neg (by decide +kernel)]; exact ⟨rfl, rfl⟩))
    (fun os started H enc _ => lifted os started H enc)
/-- THE STATEMENT: RasterPaste returns true for every input, and its arguments read as they did. -/
theorem proved : Rows.RasterPasteSaid := over
end rasterPaste
end Go.Proofs.Ytppccnjckiedlaa
