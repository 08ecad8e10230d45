/- RasterKey: for every generated raster with one tile changed, Key agrees with the reference, is the digest of the positions and keys of its tiles, and equal rasters have equal keys: the law returns true for every input, and its arguments read as they did. The two tables of package digest hold what the program's text lays. No other condition. -/
import Derived.Test.YtppccnjckiedlaaGreatDoorZk4
import Derived.SizedLaws
import Derived.ChangeSlices

/- Keys of rasters: contracts of Key of package raster and of its reference. -/
namespace Go.Proofs.YtppccnjckiedlaaGreatDoor
open Go.RowKit Go.Shelf Pl Sha
set_option linter.unusedVariables false
set_option linter.unusedSimpArgs false
set_option maxRecDepth 20000
def stE : Elt ByteArray 1 9 33 where
  enc := fun x => #[.string x]
  bytes := 16
  zero := ⟨#[]⟩
  size := fun _ => rfl
  one := fun x u hu => by
    have : u ∈ [Value.string x] := hu
    rw [List.mem_singleton.1 this]; rfl
  pos := by omega
  small := by omega
  und := Tryz.underlying33
  info := by kernel_rfl
  zer := by kernel_rfl
theorem rowE_str : ∀ ls : List ByteArray, rowE stE ls = strC ls
  | [] => rfl
  | s :: ls => by
    show (stE.enc s).toList ++ rowE stE ls = _
    rw [rowE_str ls]
    rfl
theorem OwnE.ownS {B : Nat} {v : Value} {ls : List ByteArray} {w : World} (h : OwnE stE B v ls w) : OwnS B v ls w := by
  unfold OwnE at h
  rw [rowE_str] at h
  exact h
theorem OwnS.ownE {B : Nat} {v : Value} {ls : List ByteArray} {w : World} (h : OwnS B v ls w) : OwnE stE B v ls w := by
  unfold OwnE
  rw [rowE_str]
  exact h
theorem ls_rse {v : Value} {ls : List ByteArray} {w : World} (h : LS v ls w) {c : Nat} {a : Option Addr} (hv : v = .slice a ls.length c) (hc : ls.length ≤ c) : RSE stE v ls w := by
  rcases h with h | ⟨g, c', e, sc⟩
  · exact .inl h
  · subst hv
    injection e with e1 e2 e3
    subst e1
    refine .inr (.inl ⟨g, 0, c, rfl, hc, fun hn => ⟨sc.lt, fun i x hi j hj => ?_⟩⟩)
    obtain rfl : j = 0 := by omega
    have hil : i < ls.length := (List.getElem?_eq_some_iff.1 hi).1
    have := sc.2 i hil
    rw [Nat.mul_one, Nat.add_zero, this]
    unfold sAt
    rw [List.getD_eq_getElem?_getD, hi]
    rfl
/-- A block of another type is not the row. -/
theorem OwnE.chgN {α : Type} {k : Nat} {T ST : TypeId} {E : Elt α k T ST} {B : Nat} {v : Value} {ls : List α} {t : TypeId} {b : Nat} {cs : Array Value} {w w' : World} (h : OwnE E B v ls w) (hb : AtB t w b cs) (hne : t ≠ T) (hc : Chg b w w') : OwnE E B v ls w' := by
  obtain ⟨h1, h2⟩ := h
  rcases h2 with h2 | ⟨g, cap, cur, e, hg, hx, r⟩
  · exact ⟨h1, .inl h2⟩
  · refine ⟨h1, .inr ⟨g, cap, cur, e, hg, ?_, r⟩⟩
    rw [hc.block g (Array.getElem?_eq_some_iff.1 hx).1 (fun e => by
      subst e
      have hb' : w.heap[g]? = some (.cells cs t (0, 0)) := hb
      rw [hb'] at hx
      injection hx with hx
      injection hx with _ hx
      exact hne hx)]
    exact hx
def keyP (e : TA) : List ByteArray := [ofL (big (e.x + 65536).toNat 4 ++ big (e.y + 65536).toNat 4), keyS e.t]
def partsK (ls : List TA) (k : Nat) : List ByteArray := (ls.take k).flatMap keyP
def keyR (ls : List TA) : ByteArray := JL (partsK ls ls.length)
theorem partsK_snoc {ls : List TA} {k : Nat} (h : k < ls.length) {e : TA} (he : aT ls k = e) : partsK ls (k + 1) = partsK ls k ++ keyP e := by
  unfold partsK
  rw [show ls.take (k + 1) = ls.take k ++ [e] from by
    subst he
    unfold aT
    rw [List.take_add_one, List.getD_eq_getElem?_getD, List.getElem?_eq_getElem h]
    rfl, List.flatMap_append]
  simp
theorem partsK_len (ls : List TA) : ∀ k, (partsK ls k).length ≤ 2 * k := by
  intro k
  unfold partsK
  have : ∀ m : List TA, (m.flatMap keyP).length = 2 * m.length := by
    intro m
    induction m with
    | nil => rfl
    | cons e m ih => rw [List.flatMap_cons, List.length_append, ih, List.length_cons]; show 2 + _ = _; omega
  rw [this, List.length_take]
  omega
theorem partsK_size (ls : List TA) (k : Nat) : ∀ i, (sAt (partsK ls k) i).size ≤ 100000 := by
  have hm : ∀ s ∈ partsK ls k, s.size ≤ 100000 := by
    intro s hs
    unfold partsK at hs
    obtain ⟨e, _, hs⟩ := List.mem_flatMap.1 hs
    have hs : s ∈ [ofL (big (e.x + 65536).toNat 4 ++ big (e.y + 65536).toNat 4), keyS e.t] := hs
    rcases List.mem_cons.1 hs with rfl | hs
    · rw [ofL_size, List.length_append, big_length, big_length]; omega
    · rcases List.mem_cons.1 hs with rfl | hs
      · unfold keyS; rw [ofL_size, ofB_length]; omega
      · cases hs
  intro i
  unfold sAt
  rw [List.getD_eq_getElem?_getD]
  by_cases h : i < (partsK ls k).length
  · rw [List.getElem?_eq_getElem h]
    exact hm _ (List.getElem_mem h)
  · rw [List.getElem?_eq_none (by omega)]
    exact Nat.zero_le _
set_option maxHeartbeats 4000000 in
theorem P_KeyR (v : Value) (ls : List TA) (w : World) (h : RS v ls w) (tk : TokL ls) (hn : ls.length ≤ maxLen) (h5 : (fineL ls).length ≤ 400) (gs : GAt 0 8 w Sha.start.at) (kt : GAt 1 64 w kW) : Calls Tryz.prog 9 #[.agg #[v]] w fun e w' => e = .returned (.string (keyR (fineL ls))) ∧ Below w.heap.size w w' := by
  have B := Below.refl w.heap.size w
  obtain ⟨a1, c1, hT⟩ := P_tiles v ls w h tk hn
  have HT := Lib.hid hT
  clear hT
  have TK := Lib.hid (fineL_tok tk)
  have VL := Lib.hid (fineL_valid ls)
  obtain ⟨a, c, rfl, hc⟩ := h.len
  clear h tk
  generalize fineL ls = LS at *
  have rs1 := (HT.out _ B).2
  have g0 := gs.lt
  have k0 := kt.lt
  go_enter Tryz.func9, Tryz.ntmps9
  go_upto_region 0 with fail
  refine wp_region_lit ?_
  try simp only [List.getElem_toArray, List.getElem_cons_zero, List.getElem_cons_succ]
  (refine wpList_boxB (t := 30) rfl _ rfl _ rfl ?_; intro b_r1 wn hle hge ht hbn hzn; have hsz := B.size; replace B := B.trans (hbn.mono (by omega)); have hln := Nat.lt_of_lt_of_eq (Nat.lt_succ_self _) hzn.symm; clear hzn; (try first | (have hlt := gs.lt; replace gs := gs.of_eq (hbn.block _ (by omega))) | replace gs := gs.below (hbn.mono hle)); (try first | (have hlt := kt.lt; replace kt := kt.of_eq (hbn.block _ (by omega))) | replace kt := kt.below (hbn.mono hle)); have r1 := ht; clear ht; simp only [Act.put, putS])
  refine wpList_chunk 1 (by kernel_rfl) ?_
  simp only [takS, Nat.reduceAdd]
  repeat (first | go_big_quiet_skip | (go_big_quiet_want; first | (go_big_quiet_op; go_big_quiet_on)))
  refine wpQuiet_nil ?_
  refine wpList_nil ?_
  go_upto_region 1 with fail
  refine wp_region_lit ?_
  try simp only [List.getElem_toArray, List.getElem_cons_zero, List.getElem_cons_succ]
  refine wpList_chunk 1 (by kernel_rfl) ?_
  simp only [takS, Nat.reduceAdd]
  repeat (first | go_big_quiet_skip | (go_big_quiet_want; first | (go_big_quiet_op; go_big_quiet_on)))
  refine wpQuiet_nil ?_
  refine wpList_nil ?_
  go_upto_region 2 with fail
  refine wp_region_lit ?_
  try simp only [List.getElem_toArray, List.getElem_cons_zero, List.getElem_cons_succ]
  refine wpList_chunk 1 (by kernel_rfl) ?_
  simp only [takS, Nat.reduceAdd]
  repeat (first | go_big_quiet_skip | (go_big_quiet_want; first | (refine quiet_loadAny (t := 30) rfl _ _ _ rfl (fun w hw => run_load_B (ov_B r1 w hw) Tryz.isAgg30 (by kernel_rfl)) (by rfl) ?_; simp only [Act.put, putS]; go_big_quiet_on) | (go_big_quiet_op; go_big_quiet_on)))
  refine wpQuiet_nil ?_
  refine wpList_callF (by first | rfl | simp [Region.wanted, yielded]) rfl (enters_of Tryz.func28 (by kernel_rfl) rfl) (by simp only [List.map_toArray, List.map_cons, List.map_nil, Act.eval, Array.getD_eq_getD_getElem?, List.getElem?_toArray, List.getElem?_cons_succ, List.getElem?_cons_zero, Option.getD_some]; rfl) ?_
  refine ((HT.out _ B).1).mono ?_
  rintro e wn ⟨rfl, hbn⟩
  have hsz := B.size
  have hzn := hbn.size
  replace B := B.trans (hbn.mono B.size)
  (try first | replace r1 := r1.of_eq (hbn.block _ r1.lt) | replace r1 := r1.below hbn)
  (try first | replace gs := gs.of_eq (hbn.block _ gs.lt) | replace gs := gs.below hbn)
  (try first | replace kt := kt.of_eq (hbn.block _ kt.lt) | replace kt := kt.below hbn)
  refine ⟨_, rfl, ?_⟩
  simp only [Act.put, putS]
  refine wpList_lenS (by first | rfl | simp [Region.wanted, yielded]) rfl Tryz.underlying28 rfl ?_
  simp only [Act.put, putS]
  refine wpList_chunk 1 (by kernel_rfl) ?_
  simp only [takS, Nat.reduceAdd]
  repeat (first | go_big_quiet_skip | (go_big_quiet_want; first | (go_big_quiet_op; go_big_quiet_on)))
  refine wpQuiet_nil ?_
  refine wpList_nil ?_
  clear HT r1
  have od : OwnE stE w.heap.size (.slice none 0 0) [] wn := OwnE.nil _ _
  go_wp2
  go_loopw [3, 5, 9] (fun pv _ iv wr => ∃ (k : Nat) (O : List ByteArray) (ao : Option Addr) (co : Nat), k ≤ LS.length ∧ iv = .int .i64 (k : Int) ∧ pv = .slice ao O.length co ∧ Below w.heap.size w wr ∧ GAt 0 8 wr Sha.start.at ∧ GAt 1 64 wr kW ∧ OwnE stE w.heap.size (.slice ao O.length co) O wr ∧ O = partsK LS k) (fun _ _ iv _ => (LS.length - intOf iv).toNat)
  case atStart => exact ⟨0, [], _, _, by omega, rfl, rfl, B, gs, kt, od, rfl⟩
  case round =>
    clear B gs kt od
    obtain ⟨k, O, ao, co, hk, rfl, rfl, B, gs, kt, od, hO⟩ := hrel
    have hO1 := partsK_len LS k
    rw [← hO] at hO1
    have HO := Lib.hid hO
    clear hO
    by_cases hkl : k < LS.length
    · have q1 : decide ((k : Int) < (LS.length : Int)) = true := decide_eq_true (by omega)
      have q2 : decide (k < LS.length) = true := decide_eq_true hkl
      obtain ⟨g, o, rfl, rc0⟩ := rs1.at (by omega)
      have rc := rc0.of_eq (B.block _ rc0.lt)
      have hm : aT LS k ∈ LS := List.mem_iff_getElem?.2 ⟨k, aT_at hkl⟩
      have ok := TK.out _ hm
      have hw := of_decide_eq_true ((goodA_iff _).1 (validL_good VL.out _ hm)).1
      clear rc0 hm
      obtain ⟨⟨x, y, t⟩, he⟩ : ∃ e, aT LS k = e := ⟨_, rfl⟩
      rw [he] at ok hw
      obtain ⟨w1, w2, w3, w4⟩ := hw
      have OK := Lib.hid ok
      clear ok
      dsimp only at w1 w2 w3 w4
      have HP := Lib.hid (partsK_snoc hkl he)
      go_upto_region 3 with fail
      refine wp_region_lit ?_
      try simp only [List.getElem_toArray, List.getElem_cons_zero, List.getElem_cons_succ]
      refine wpList_chunk 1 (by kernel_rfl) ?_
      simp only [takS, Nat.reduceAdd]
      repeat (first | go_big_quiet_skip | (go_big_quiet_want; first | (go_big_quiet_op; go_big_quiet_on)))
      refine wpQuiet_nil ?_
      refine wpList_nil ?_
      go_upto_region 4 with fail
      refine wp_region_lit ?_
      try simp only [List.getElem_toArray, List.getElem_cons_zero, List.getElem_cons_succ]
      refine wpList_chunk 2 (by kernel_rfl) ?_
      simp only [takS, Nat.reduceAdd]
      repeat (first | go_big_quiet_skip | (go_big_quiet_want; first | (refine quiet_loadAny (t := 39) rfl _ _ _ rfl (fun w hw => rc_ta (ov_rc rc w hw) hkl he) (by first | rfl | omega) ?_; simp only [Act.put, putS]; go_big_quiet_on) | (go_big_quiet_op; go_big_quiet_on)))
      refine wpQuiet_nil ?_
      (refine wpList_allocBk (t := 39) rfl _ (run_alloc_TA _ _ rfl) ?_; intro b_t5 wn hle hge ht hbn hzn; have hsz := B.size; replace B := B.trans (hbn.mono (by omega)); have hln := Nat.lt_of_lt_of_eq (Nat.lt_succ_self _) hzn.symm; clear hzn; (try first | (have hlt := r1.lt; replace r1 := r1.of_eq (hbn.block _ (by omega))) | replace r1 := r1.below (hbn.mono hle)); (try first | (have hlt := rc.lt; replace rc := rc.of_eq (hbn.block _ (by omega))) | replace rc := rc.below (hbn.mono hle)); (try first | (have hlt := gs.lt; replace gs := gs.of_eq (hbn.block _ (by omega))) | replace gs := gs.below (hbn.mono hle)); (try first | (have hlt := kt.lt; replace kt := kt.of_eq (hbn.block _ (by omega))) | replace kt := kt.below (hbn.mono hle)); (try first | (have hlt := od.lt; replace od := od.of_eq (hbn.block _ (by omega))) | replace od := od.below (hbn.mono hle)); have t5 := ht; clear ht; simp only [Act.put, putS])
      (refine wpList_storeB (t := 39) rfl _ _ rfl _ rfl _ rfl t5 (by rw [size_taC]; kernel_rfl) (by simp only [size_taC, size_zTA]) (taC_all _) ?_; have t5o := t5; clear t5; intro wn ht hcn hzn; (try replace od := od.chgN t5o (by decide) hcn); have hsz := B.size; replace hzn := Nat.le_of_eq hzn.symm; replace B := Chg.below B hcn (by omega) B.size; (try replace r1 := r1.of_eq (hcn.block _ r1.lt (by omega))); (try replace rc := rc.of_eq (hcn.block _ rc.lt (by omega))); (try replace gs := gs.of_eq (hcn.block _ gs.lt (by omega))); (try replace kt := kt.of_eq (hcn.block _ kt.lt (by omega))); have t5 := ht; clear ht; simp only [Act.put, putS])
      refine wpList_nil ?_
      go_upto_region 5 with fail
      try simp only [List.getElem_toArray, List.getElem_cons_zero, List.getElem_cons_succ]
      try have lx_t5 := t5.lt
      try have lx_gs := gs.lt
      try have lx_kt := kt.lt
      try have lx_od := od.lt
      refine wp_region_RL 15 [(5, detS ?v1_5), (10, detS ?v1_10), (14, detS ?v1_14)] (by kernel_rfl) (by kernel_rfl) (by kernel_rfl) ?_
      rotate_left 3
      simp only [takS, Nat.reduceAdd]
      refine wpRL_chunk 5 (by kernel_rfl) ?_
      simp only [takS, Nat.reduceAdd]
      repeat (first | go_big_quiet_skip | (go_big_quiet_want; first | (refine quiet_loadAny (t := 3) rfl _ _ _ rfl (fun w hw => run_load_int ((ov_B t5 w hw).cell 0 (taC_x _))) (by first | rfl | omega) ?_; simp only [Act.put, putS]; go_big_quiet_on) | (refine quiet_loadAny (t := 3) rfl _ _ _ rfl (fun w hw => run_load_int ((ov_B t5 w hw).cell 1 (taC_y _))) (by first | rfl | omega) ?_; simp only [Act.put, putS]; go_big_quiet_on) | (go_big_quiet_op; go_big_quiet_on)))
      refine wpQuiet_nil ?_
      refine wpRL_callB (by rfl) (by first | rfl | simp [Region.wanted, yielded]) ?_ ?_
      · intro wn hbn hE Kx hKx
        have hsz := B.size
        have hzn := hbn.size
        replace B := B.trans (hbn.mono B.size)
        (try first | replace t5 := t5.of_eq (hbn.block _ t5.lt) | replace t5 := t5.below hbn)
        (try first | replace gs := gs.of_eq (hbn.block _ gs.lt) | replace gs := gs.below hbn)
        (try first | replace kt := kt.of_eq (hbn.block _ kt.lt) | replace kt := kt.below hbn)
        (try first | replace od := od.of_eq (hbn.block _ od.lt) | replace od := od.below hbn)
        refine wp_callF rfl (enters_of Tryz.func7 (by kernel_rfl) rfl) (by simp only [List.map_toArray, List.map_cons, List.map_nil, Act.eval, Array.getD_eq_getD_getElem?, List.getElem?_toArray, List.getElem?_cons_succ, List.getElem?_cons_zero, Option.getD_some]; rfl) ?_
        refine (P_Put4z (x + 65536).toNat (x + 65536) (by omega) (by omega) _).mono ?_
        rintro e wm ⟨rfl, hbm⟩
        refine ⟨_, rfl, ?_⟩
        have hz := hKx () wm trivial hbm
        dsimp only [detS] at hz
        exact hz
      rintro ⟨⟩
      dsimp only [detS]
      simp only [Act.put, putS]
      refine wpRL_chunk 4 (by kernel_rfl) ?_
      simp only [takS, Nat.reduceAdd]
      repeat (first | go_big_quiet_skip | (go_big_quiet_want; first | (refine quiet_loadAny (t := 3) rfl _ _ _ rfl (fun w hw => run_load_int ((ov_B t5 w hw).cell 0 (taC_x _))) (by first | rfl | omega) ?_; simp only [Act.put, putS]; go_big_quiet_on) | (refine quiet_loadAny (t := 3) rfl _ _ _ rfl (fun w hw => run_load_int ((ov_B t5 w hw).cell 1 (taC_y _))) (by first | rfl | omega) ?_; simp only [Act.put, putS]; go_big_quiet_on) | (go_big_quiet_op; go_big_quiet_on)))
      refine wpQuiet_nil ?_
      refine wpRL_callB (by rfl) (by first | rfl | simp [Region.wanted, yielded]) ?_ ?_
      · intro wn hbn hE Kx hKx
        have hsz := B.size
        have hzn := hbn.size
        replace B := B.trans (hbn.mono B.size)
        (try first | replace t5 := t5.of_eq (hbn.block _ t5.lt) | replace t5 := t5.below hbn)
        (try first | replace gs := gs.of_eq (hbn.block _ gs.lt) | replace gs := gs.below hbn)
        (try first | replace kt := kt.of_eq (hbn.block _ kt.lt) | replace kt := kt.below hbn)
        (try first | replace od := od.of_eq (hbn.block _ od.lt) | replace od := od.below hbn)
        refine wp_callF rfl (enters_of Tryz.func7 (by kernel_rfl) rfl) (by simp only [List.map_toArray, List.map_cons, List.map_nil, Act.eval, Array.getD_eq_getD_getElem?, List.getElem?_toArray, List.getElem?_cons_succ, List.getElem?_cons_zero, Option.getD_some]; rfl) ?_
        refine (P_Put4z (y + 65536).toNat (y + 65536) (by omega) (by omega) _).mono ?_
        rintro e wm ⟨rfl, hbm⟩
        refine ⟨_, rfl, ?_⟩
        have hz := hKx () wm trivial hbm
        dsimp only [detS] at hz
        exact hz
      rintro ⟨⟩
      dsimp only [detS]
      simp only [Act.put, putS]
      refine wpRL_chunk 3 (by kernel_rfl) ?_
      simp only [takS, Nat.reduceAdd]
      repeat (first | go_big_quiet_skip | (go_big_quiet_want; first | (refine quiet_loadAny (t := 37) rfl _ _ _ rfl (fun w hw => ta_tile (ov_B t5 w hw)) (by first | rfl | omega) ?_; simp only [Act.put, putS]; go_big_quiet_on) | (go_big_quiet_op; go_big_quiet_on)))
      refine wpQuiet_nil ?_
      refine wpRL_callB (by rfl) (by first | rfl | simp [Region.wanted, yielded]) ?_ ?_
      · intro wn hbn hE Kx hKx
        have hsz := B.size
        have hzn := hbn.size
        replace B := B.trans (hbn.mono B.size)
        (try first | replace t5 := t5.of_eq (hbn.block _ t5.lt) | replace t5 := t5.below hbn)
        (try first | replace gs := gs.of_eq (hbn.block _ gs.lt) | replace gs := gs.below hbn)
        (try first | replace kt := kt.of_eq (hbn.block _ kt.lt) | replace kt := kt.below hbn)
        (try first | replace od := od.of_eq (hbn.block _ od.lt) | replace od := od.below hbn)
        refine wp_callF rfl (enters_of Tryz.func8 (by kernel_rfl) rfl) (by simp only [List.map_toArray, List.map_cons, List.map_nil, Act.eval, Array.getD_eq_getD_getElem?, List.getElem?_toArray, List.getElem?_cons_succ, List.getElem?_cons_zero, Option.getD_some]; rfl) ?_
        refine (P_Key t _ OK.out gs kt).mono ?_
        rintro e wm ⟨rfl, hbm⟩
        refine ⟨_, rfl, ?_⟩
        have hz := hKx () wm trivial hbm
        dsimp only [detS] at hz
        exact hz
      rintro ⟨⟩
      dsimp only [detS]
      simp only [Act.put, putS]
      refine wpRL_nil ?_
      intro wn hbn hE
      have hsz := B.size
      have hzn := hbn.size
      replace B := B.trans (hbn.mono B.size)
      (try first | replace t5 := t5.of_eq (hbn.block _ t5.lt) | replace t5 := t5.below hbn)
      (try first | replace gs := gs.of_eq (hbn.block _ gs.lt) | replace gs := gs.below hbn)
      (try first | replace kt := kt.of_eq (hbn.block _ kt.lt) | replace kt := kt.below hbn)
      (try first | replace od := od.of_eq (hbn.block _ od.lt) | replace od := od.below hbn)
      clear hE
      try simp only [List.drop_succ_cons, List.drop_zero]
      go_wp2_with (first | (at_builtin; refine wpList_appendE rfl _ _ rfl _ _ rfl rfl od ((ls_rse s2 rfl (Nat.le_refl 2))) (by simp only [List.length_append, List.length_cons, List.length_nil]; omega) (by omega) ?_; intro v_od wn ht hbn; have hsz := B.size; have hbz := hbn.size; replace B := B.trans (hbn.mono (by omega)); clear od; (try replace gs := gs.of_eq (hbn.block _ (by omega))); (try replace kt := kt.of_eq (hbn.block _ (by omega))); have od := ht; clear ht; obtain ⟨a_od, c_od, hv, hco⟩ := od.len; (try simp only [List.length_append, List.length_cons, List.length_nil, Nat.zero_add] at hv hco); subst hv; simp only [Act.put, putS]) | (refine wpList_bsS2 rfl _ _ rfl _ _ rfl rfl ?_; intro b_s2 wn hle hge ht hbn hzn; replace od := od.below (hbn.mono hle); have hsz := B.size; replace B := B.trans (hbn.mono (by omega)); have hln := Nat.lt_of_lt_of_eq (Nat.lt_succ_self _) hzn.symm; clear hzn; (try first | (have hlt := r1.lt; replace r1 := r1.of_eq (hbn.block _ (by omega))) | replace r1 := r1.below (hbn.mono hle)); (try first | (have hlt := t5.lt; replace t5 := t5.of_eq (hbn.block _ (by omega))) | replace t5 := t5.below (hbn.mono hle)); (try first | (have hlt := rc.lt; replace rc := rc.of_eq (hbn.block _ (by omega))) | replace rc := rc.below (hbn.mono hle)); (try first | (have hlt := gs.lt; replace gs := gs.of_eq (hbn.block _ (by omega))) | replace gs := gs.below (hbn.mono hle)); (try first | (have hlt := kt.lt; replace kt := kt.of_eq (hbn.block _ (by omega))) | replace kt := kt.below (hbn.mono hle)); have s2 := ht; clear ht; simp only [Act.put, putS]) | fail)
      refine NoPan.normal ?_
      go_wp2
      go_roundw
      case rel => exact ⟨k + 1, O ++ keyP ⟨x, y, t⟩, _, _, by omega, by go_num, by rw [List.length_append]; rfl, B, gs, kt, by rw [List.length_append]; exact od, by rw [HP.out, HO.out]⟩
      case measure => simp [intOf]; omega
    · obtain rfl : k = LS.length := by omega
      have q1 : decide (((LS.length : Nat) : Int) < (LS.length : Int)) = false := decide_eq_false (by omega)
      have q2 : decide (LS.length < LS.length) = false := decide_eq_false (by omega)
      have hM := Lib.hid (show ∀ i, (sAt O i).size ≤ 100000 from by rw [HO.out]; exact partsK_size LS _)
      go_upto_region 3 with fail
      refine wp_region_lit ?_
      try simp only [List.getElem_toArray, List.getElem_cons_zero, List.getElem_cons_succ]
      refine wpList_chunk 1 (by kernel_rfl) ?_
      simp only [takS, Nat.reduceAdd]
      repeat (first | go_big_quiet_skip | (go_big_quiet_want; first | (go_big_quiet_op; go_big_quiet_on)))
      refine wpQuiet_nil ?_
      refine wpList_nil ?_
      have s1 := od.ownS.ls
      go_upto_region 7 with fail
      refine wp_region_lit ?_
      try simp only [List.getElem_toArray, List.getElem_cons_zero, List.getElem_cons_succ]
      refine wpList_chunk 1 (by kernel_rfl) ?_
      simp only [takS, Nat.reduceAdd]
      repeat (first | go_big_quiet_skip | (go_big_quiet_want; first | (go_big_quiet_op; go_big_quiet_on)))
      refine wpQuiet_nil ?_
      refine wpList_callF (by first | rfl | simp [Region.wanted, yielded]) rfl (enters_of Tryz.func11 (by kernel_rfl) rfl) (by simp only [List.map_toArray, List.map_cons, List.map_nil, Act.eval, Array.getD_eq_getD_getElem?, List.getElem?_toArray, List.getElem?_cons_succ, List.getElem?_cons_zero, Option.getD_some]; rfl) ?_
      refine (P_JoinL s1 (by omega) hM.out gs kt).mono ?_
      rintro e wn ⟨rfl, hbn⟩
      have hsz := B.size
      have hzn := hbn.size
      replace B := B.trans (hbn.mono B.size)
      (try first | replace r1 := r1.of_eq (hbn.block _ r1.lt) | replace r1 := r1.below hbn)
      (try first | replace t5 := t5.of_eq (hbn.block _ t5.lt) | replace t5 := t5.below hbn)
      (try first | replace rc := rc.of_eq (hbn.block _ rc.lt) | replace rc := rc.below hbn)
      (try first | replace gs := gs.of_eq (hbn.block _ gs.lt) | replace gs := gs.below hbn)
      (try first | replace kt := kt.of_eq (hbn.block _ kt.lt) | replace kt := kt.below hbn)
      refine ⟨_, rfl, ?_⟩
      simp only [Act.put, putS]
      refine wpList_chunk 1 (by kernel_rfl) ?_
      simp only [takS, Nat.reduceAdd]
      repeat (first | go_big_quiet_skip | (go_big_quiet_want; first | (go_big_quiet_op; go_big_quiet_on)))
      refine wpQuiet_nil ?_
      refine wpList_nil ?_
      iterate 3 go_step
      go_ret
      exact ⟨by rw [HO.out]; rfl, B⟩
theorem R_JoinL {v : Value} {ls : List ByteArray} {w : World} (h : LS v ls w) (hn : ls.length ≤ 1000) (hM : ∀ k, (sAt ls k).size ≤ 100000) : Calls Tryz.prog 32 #[v] w fun e w' => e = .returned (.string (JL ls)) ∧ Below w.heap.size w w' := by
  rcases h with ⟨rfl, rfl⟩ | ⟨g, c, rfl, sc⟩
  · exact R_Join_nil w
  · exact R_Join _ _ _ _ _ sc hn hM
set_option maxHeartbeats 4000000 in
theorem R_KeyR (v : Value) (ls : List TA) (w : World) (h : RS v ls w) (tk : TokL ls) (hn : ls.length ≤ maxLen) (h5 : (fineL ls).length ≤ 400) : Calls Tryz.prog 10 #[.agg #[v]] w fun e w' => e = .returned (.string (keyR (fineL ls))) ∧ Below w.heap.size w w' := by
  have B := Below.refl w.heap.size w
  obtain ⟨a1, c1, hT⟩ := R_Of v ls w h tk hn
  have HT := Lib.hid hT
  clear hT
  have TK := Lib.hid (fineL_tok tk)
  have VL := Lib.hid (fineL_valid ls)
  obtain ⟨a, c, rfl, hc⟩ := h.len
  clear h tk
  generalize fineL ls = LS at *
  have rs1 := (HT.out _ B).2
  go_enter Tryz.func10, Tryz.ntmps10
  go_upto_region 0 with fail
  refine wp_region_lit ?_
  try simp only [List.getElem_toArray, List.getElem_cons_zero, List.getElem_cons_succ]
  (refine wpList_boxB (t := 30) rfl _ rfl _ rfl ?_; intro b_r1 wn hle hge ht hbn hzn; have hsz := B.size; replace B := B.trans (hbn.mono (by omega)); have hln := Nat.lt_of_lt_of_eq (Nat.lt_succ_self _) hzn.symm; clear hzn; have r1 := ht; clear ht; simp only [Act.put, putS])
  refine wpList_chunk 1 (by kernel_rfl) ?_
  simp only [takS, Nat.reduceAdd]
  repeat (first | go_big_quiet_skip | (go_big_quiet_want; first | (go_big_quiet_op; go_big_quiet_on)))
  refine wpQuiet_nil ?_
  refine wpList_nil ?_
  have k1 : w.heap.size ≤ b_r1 := by omega
  go_upto_region 1 with fail
  refine wp_region_lit ?_
  try simp only [List.getElem_toArray, List.getElem_cons_zero, List.getElem_cons_succ]
  (refine wpList_bsE rfl rfl ?_; intro b_od wn hle hge ht hbn hzn; have hsz := B.size; replace B := B.trans (hbn.mono (by omega)); have hln := Nat.lt_of_lt_of_eq (Nat.lt_succ_self _) hzn.symm; clear hzn; (try first | (have hlt := r1.lt; replace r1 := r1.of_eq (hbn.block _ (by omega))) | replace r1 := r1.below (hbn.mono hle)); have od := ht; clear ht; simp only [Act.put, putS])
  refine wpList_chunk 1 (by kernel_rfl) ?_
  simp only [takS, Nat.reduceAdd]
  repeat (first | go_big_quiet_skip | (go_big_quiet_want; first | (go_big_quiet_op; go_big_quiet_on)))
  refine wpQuiet_nil ?_
  refine wpList_nil ?_
  have k2 := r1.lt
  have k3 : b_r1 < b_od := by omega
  have k4 : b_od ≤ wn.heap.size := by omega
  replace od := od.ownE
  go_upto_region 2 with fail
  refine wp_region_lit ?_
  try simp only [List.getElem_toArray, List.getElem_cons_zero, List.getElem_cons_succ]
  refine wpList_chunk 1 (by kernel_rfl) ?_
  simp only [takS, Nat.reduceAdd]
  repeat (first | go_big_quiet_skip | (go_big_quiet_want; first | (refine quiet_loadAny (t := 30) rfl _ _ _ rfl (fun w hw => run_load_B (ov_B r1 w hw) Tryz.isAgg30 (by kernel_rfl)) (by rfl) ?_; simp only [Act.put, putS]; go_big_quiet_on) | (go_big_quiet_op; go_big_quiet_on)))
  refine wpQuiet_nil ?_
  refine wpList_callF (by first | rfl | simp [Region.wanted, yielded]) rfl (enters_of Tryz.func29 (by kernel_rfl) rfl) (by simp only [List.map_toArray, List.map_cons, List.map_nil, Act.eval, Array.getD_eq_getD_getElem?, List.getElem?_toArray, List.getElem?_cons_succ, List.getElem?_cons_zero, Option.getD_some]; rfl) ?_
  refine ((HT.out _ B).1).mono ?_
  rintro e wn ⟨rfl, hbn⟩
  have hsz := B.size
  have hzn := hbn.size
  replace B := B.trans (hbn.mono B.size)
  (try first | replace r1 := r1.of_eq (hbn.block _ r1.lt) | replace r1 := r1.below hbn)
  (try first | replace od := od.of_eq (hbn.block _ od.lt) | replace od := od.below hbn)
  refine ⟨_, rfl, ?_⟩
  simp only [Act.put, putS]
  (refine wpList_storeB (t := 30) rfl _ _ rfl _ rfl _ rfl r1 (by kernel_rfl) rfl (by simp [Value.oneCell']) ?_; have r1o := r1; clear r1; intro wn ht hcn hzn; (try replace od := od.chgN r1o (by decide) hcn); have hsz := B.size; replace hzn := Nat.le_of_eq hzn.symm; replace B := Chg.below B hcn (by omega) B.size; have r1 := ht; clear ht; simp only [Act.put, putS])
  refine wpList_nil ?_
  clear HT k2
  have k4 : b_od ≤ wn.heap.size := by omega
  go_upto_region 3 with fail
  refine wp_region_lit ?_
  try simp only [List.getElem_toArray, List.getElem_cons_zero, List.getElem_cons_succ]
  refine wpList_chunk 1 (by kernel_rfl) ?_
  simp only [takS, Nat.reduceAdd]
  repeat (first | go_big_quiet_skip | (go_big_quiet_want; first | (go_big_quiet_op; go_big_quiet_on)))
  refine wpQuiet_nil ?_
  refine wpList_nil ?_
  go_wp2
  go_loopw [3, 4, 5] (fun pv iv _ wr => ∃ (k : Nat) (O : List ByteArray) (ao : Option Addr) (co : Nat), k ≤ LS.length ∧ iv = .int .i64 (k : Int) ∧ pv = .slice ao O.length co ∧ Below w.heap.size w wr ∧ b_od ≤ wr.heap.size ∧ AtB 30 wr b_r1 #[.slice a1 LS.length c1] ∧ OwnE stE b_od (.slice ao O.length co) O wr ∧ O = partsK LS k) (fun _ iv _ _ => (LS.length - intOf iv).toNat)
  case atStart => exact ⟨0, [], _, _, by omega, rfl, rfl, B, k4, r1, od, rfl⟩
  case round =>
    clear B r1 od k4
    obtain ⟨k, O, ao, co, hk, rfl, rfl, B, k4, r1, od, hO⟩ := hrel
    have hO1 := partsK_len LS k
    rw [← hO] at hO1
    have HO := Lib.hid hO
    clear hO
    by_cases hkl : k < LS.length
    · have q1 : decide ((k : Int) < (LS.length : Int)) = true := decide_eq_true (by omega)
      have q2 : decide (k < LS.length) = true := decide_eq_true hkl
      obtain ⟨g, o, rfl, rc0⟩ := rs1.at (by omega)
      have rc := rc0.of_eq (B.block _ rc0.lt)
      have ngr : g ≠ b_r1 := by have := rc0.lt; omega
      have hm : aT LS k ∈ LS := List.mem_iff_getElem?.2 ⟨k, aT_at hkl⟩
      have ok := TK.out _ hm
      have hw := of_decide_eq_true ((goodA_iff _).1 (validL_good VL.out _ hm)).1
      clear rc0 hm
      obtain ⟨⟨x, y, t⟩, he⟩ : ∃ e, aT LS k = e := ⟨_, rfl⟩
      rw [he] at ok hw
      obtain ⟨w1, w2, w3, w4⟩ := hw
      have OK := Lib.hid ok
      clear ok
      dsimp only at w1 w2 w3 w4
      have HP := Lib.hid (partsK_snoc hkl he)
      go_upto_region 4 with fail
      refine wp_region_lit ?_
      try simp only [List.getElem_toArray, List.getElem_cons_zero, List.getElem_cons_succ]
      refine wpList_chunk 3 (by kernel_rfl) ?_
      simp only [takS, Nat.reduceAdd]
      repeat (first | go_big_quiet_skip | (go_big_quiet_want; first | (refine quiet_loadAny (t := 28) rfl _ _ _ rfl (fun w hw => run_load_sl (ov_B r1 w hw).cell0) (by rfl) ?_; simp only [Act.put, putS]; go_big_quiet_on) | (go_big_quiet_op; go_big_quiet_on)))
      refine wpQuiet_nil ?_
      refine wpList_lenS (by first | rfl | simp [Region.wanted, yielded]) rfl Tryz.underlying28 rfl ?_
      simp only [Act.put, putS]
      refine wpList_chunk 1 (by kernel_rfl) ?_
      simp only [takS, Nat.reduceAdd]
      repeat (first | go_big_quiet_skip | (go_big_quiet_want; first | (go_big_quiet_op; go_big_quiet_on)))
      refine wpQuiet_nil ?_
      refine wpList_nil ?_
      go_upto_region 6 with fail
      refine wp_region_lit ?_
      try simp only [List.getElem_toArray, List.getElem_cons_zero, List.getElem_cons_succ]
      refine wpList_chunk 6 (by kernel_rfl) ?_
      simp only [takS, Nat.reduceAdd]
      repeat (first | go_big_quiet_skip | (go_big_quiet_want; first | (refine quiet_loadAny (t := 28) rfl _ _ _ rfl (fun w hw => run_load_sl (ov_B r1 w hw).cell0) (by rfl) ?_; simp only [Act.put, putS]; go_big_quiet_on) | (refine quiet_loadAny (t := 24) rfl _ _ _ rfl (fun w hw => rc_pos (ov_rc rc w hw) hkl he) (by first | rfl | omega) ?_; simp only [Act.put, putS]; go_big_quiet_on) | (go_big_quiet_op; go_big_quiet_on)))
      refine wpQuiet_nil ?_
      (refine wpList_allocBk (t := 24) rfl _ (run_alloc_Ps _ _ rfl) ?_; intro b_p5 wn hle hge ht hbn hzn; have hsz := B.size; replace B := B.trans (hbn.mono (by omega)); have hln := Nat.lt_of_lt_of_eq (Nat.lt_succ_self _) hzn.symm; clear hzn; (try first | (have hlt := r1.lt; replace r1 := r1.of_eq (hbn.block _ (by omega))) | replace r1 := r1.below (hbn.mono hle)); (try first | (have hlt := rc.lt; replace rc := rc.of_eq (hbn.block _ (by omega))) | replace rc := rc.below (hbn.mono hle)); (try first | (have hlt := od.lt; replace od := od.of_eq (hbn.block _ (by omega))) | replace od := od.below (hbn.mono hle)); have p5 := ht; clear ht; simp only [Act.put, putS])
      (refine wpList_storeB (t := 24) rfl _ _ rfl _ rfl _ rfl p5 (by kernel_rfl) rfl (by simp [Value.oneCell']) ?_; have p5o := p5; clear p5; intro wn ht hcn hzn; (try replace od := od.chgN p5o (by decide) hcn); have hsz := B.size; replace hzn := Nat.le_of_eq hzn.symm; replace B := Chg.below B hcn (by omega) B.size; (try replace r1 := r1.of_eq (hcn.block _ r1.lt (by omega))); (try replace rc := rc.of_eq (hcn.block _ rc.lt (by omega))); have p5 := ht; clear ht; simp only [Act.put, putS])
      refine wpList_nil ?_
      replace p5 : AtB 24 _ b_p5 #[.int .i64 x, .int .i64 y] := p5
      go_upto_region 7 with fail
      try simp only [List.getElem_toArray, List.getElem_cons_zero, List.getElem_cons_succ]
      try have lx_r1 := r1.lt
      try have lx_p5 := p5.lt
      try have lx_rc := rc.lt
      try have lx_od := od.lt
      refine wp_region_RL 19 [(5, detS ?v2_5), (10, detS ?v2_10), (18, detS ?v2_18)] (by kernel_rfl) (by kernel_rfl) (by kernel_rfl) ?_
      rotate_left 3
      simp only [takS, Nat.reduceAdd]
      refine wpRL_chunk 5 (by kernel_rfl) ?_
      simp only [takS, Nat.reduceAdd]
      repeat (first | go_big_quiet_skip | (go_big_quiet_want; first | (refine quiet_loadAny (t := 3) rfl _ _ _ rfl (fun w hw => run_load_int ((ov_B p5 w hw).cellL 0 rfl)) (by rfl) ?_; simp only [Act.put, putS]; go_big_quiet_on) | (refine quiet_loadAny (t := 3) rfl _ _ _ rfl (fun w hw => run_load_int ((ov_B p5 w hw).cellL 1 rfl)) (by rfl) ?_; simp only [Act.put, putS]; go_big_quiet_on) | (go_big_quiet_op; go_big_quiet_on)))
      refine wpQuiet_nil ?_
      refine wpRL_callB (by rfl) (by first | rfl | simp [Region.wanted, yielded]) ?_ ?_
      · intro wn hbn hE Kx hKx
        have hsz := B.size
        have hzn := hbn.size
        replace B := B.trans (hbn.mono B.size)
        (try first | replace r1 := r1.of_eq (hbn.block _ r1.lt) | replace r1 := r1.below hbn)
        (try first | replace p5 := p5.of_eq (hbn.block _ p5.lt) | replace p5 := p5.below hbn)
        (try first | replace rc := rc.of_eq (hbn.block _ rc.lt) | replace rc := rc.below hbn)
        (try first | replace od := od.of_eq (hbn.block _ od.lt) | replace od := od.below hbn)
        refine wp_callF rfl (enters_of Tryz.func30 (by kernel_rfl) rfl) (by simp only [List.map_toArray, List.map_cons, List.map_nil, Act.eval, Array.getD_eq_getD_getElem?, List.getElem?_toArray, List.getElem?_cons_succ, List.getElem?_cons_zero, Option.getD_some]; rfl) ?_
        refine (R_Big4z (x + 65536).toNat (x + 65536) (by omega) (by omega) _).mono ?_
        rintro e wm ⟨rfl, hbm⟩
        refine ⟨_, rfl, ?_⟩
        have hz := hKx () wm trivial hbm
        dsimp only [detS] at hz
        exact hz
      rintro ⟨⟩
      dsimp only [detS]
      simp only [Act.put, putS]
      refine wpRL_chunk 4 (by kernel_rfl) ?_
      simp only [takS, Nat.reduceAdd]
      repeat (first | go_big_quiet_skip | (go_big_quiet_want; first | (refine quiet_loadAny (t := 3) rfl _ _ _ rfl (fun w hw => run_load_int ((ov_B p5 w hw).cellL 0 rfl)) (by rfl) ?_; simp only [Act.put, putS]; go_big_quiet_on) | (refine quiet_loadAny (t := 3) rfl _ _ _ rfl (fun w hw => run_load_int ((ov_B p5 w hw).cellL 1 rfl)) (by rfl) ?_; simp only [Act.put, putS]; go_big_quiet_on) | (go_big_quiet_op; go_big_quiet_on)))
      refine wpQuiet_nil ?_
      refine wpRL_callB (by rfl) (by first | rfl | simp [Region.wanted, yielded]) ?_ ?_
      · intro wn hbn hE Kx hKx
        have hsz := B.size
        have hzn := hbn.size
        replace B := B.trans (hbn.mono B.size)
        (try first | replace r1 := r1.of_eq (hbn.block _ r1.lt) | replace r1 := r1.below hbn)
        (try first | replace p5 := p5.of_eq (hbn.block _ p5.lt) | replace p5 := p5.below hbn)
        (try first | replace rc := rc.of_eq (hbn.block _ rc.lt) | replace rc := rc.below hbn)
        (try first | replace od := od.of_eq (hbn.block _ od.lt) | replace od := od.below hbn)
        refine wp_callF rfl (enters_of Tryz.func30 (by kernel_rfl) rfl) (by simp only [List.map_toArray, List.map_cons, List.map_nil, Act.eval, Array.getD_eq_getD_getElem?, List.getElem?_toArray, List.getElem?_cons_succ, List.getElem?_cons_zero, Option.getD_some]; rfl) ?_
        refine (R_Big4z (y + 65536).toNat (y + 65536) (by omega) (by omega) _).mono ?_
        rintro e wm ⟨rfl, hbm⟩
        refine ⟨_, rfl, ?_⟩
        have hz := hKx () wm trivial hbm
        dsimp only [detS] at hz
        exact hz
      rintro ⟨⟩
      dsimp only [detS]
      simp only [Act.put, putS]
      refine wpRL_chunk 7 (by kernel_rfl) ?_
      simp only [takS, Nat.reduceAdd]
      repeat (first | go_big_quiet_skip | (go_big_quiet_want; first | (refine quiet_loadAny (t := 28) rfl _ _ _ rfl (fun w hw => run_load_sl (ov_B r1 w hw).cell0) (by rfl) ?_; simp only [Act.put, putS]; go_big_quiet_on) | (refine quiet_loadAny (t := 37) rfl _ _ _ rfl (fun w hw => rc_tile (ov_rc rc w hw) hkl he) (by first | rfl | omega) ?_; simp only [Act.put, putS]; go_big_quiet_on) | (go_big_quiet_op; go_big_quiet_on)))
      refine wpQuiet_nil ?_
      refine wpRL_callB (by rfl) (by first | rfl | simp [Region.wanted, yielded]) ?_ ?_
      · intro wn hbn hE Kx hKx
        have hsz := B.size
        have hzn := hbn.size
        replace B := B.trans (hbn.mono B.size)
        (try first | replace r1 := r1.of_eq (hbn.block _ r1.lt) | replace r1 := r1.below hbn)
        (try first | replace p5 := p5.of_eq (hbn.block _ p5.lt) | replace p5 := p5.below hbn)
        (try first | replace rc := rc.of_eq (hbn.block _ rc.lt) | replace rc := rc.below hbn)
        (try first | replace od := od.of_eq (hbn.block _ od.lt) | replace od := od.below hbn)
        refine wp_callF rfl (enters_of Tryz.func31 (by kernel_rfl) rfl) (by simp only [List.map_toArray, List.map_cons, List.map_nil, Act.eval, Array.getD_eq_getD_getElem?, List.getElem?_toArray, List.getElem?_cons_succ, List.getElem?_cons_zero, Option.getD_some]; rfl) ?_
        refine (R_Key t _ OK.out).mono ?_
        rintro e wm ⟨rfl, hbm⟩
        refine ⟨_, rfl, ?_⟩
        have hz := hKx () wm trivial hbm
        dsimp only [detS] at hz
        exact hz
      rintro ⟨⟩
      dsimp only [detS]
      simp only [Act.put, putS]
      refine wpRL_nil ?_
      intro wn hbn hE
      have hsz := B.size
      have hzn := hbn.size
      replace B := B.trans (hbn.mono B.size)
      (try first | replace r1 := r1.of_eq (hbn.block _ r1.lt) | replace r1 := r1.below hbn)
      (try first | replace p5 := p5.of_eq (hbn.block _ p5.lt) | replace p5 := p5.below hbn)
      (try first | replace rc := rc.of_eq (hbn.block _ rc.lt) | replace rc := rc.below hbn)
      (try first | replace od := od.of_eq (hbn.block _ od.lt) | replace od := od.below hbn)
      clear hE
      try simp only [List.drop_succ_cons, List.drop_zero]
      go_wp2_with (first | (at_builtin; refine wpList_appendE rfl _ _ rfl _ _ rfl rfl od ((ls_rse s2 rfl (Nat.le_refl 2))) (by simp only [List.length_append, List.length_cons, List.length_nil]; omega) (by omega) ?_; intro v_od wn ht hbn; have hsz := B.size; have hbz := hbn.size; replace B := B.trans (hbn.mono (by omega)); clear od; (try replace r1 := r1.of_eq (hbn.block _ (by omega))); have od := ht; clear ht; obtain ⟨a_od, c_od, hv, hco⟩ := od.len; (try simp only [List.length_append, List.length_cons, List.length_nil, Nat.zero_add] at hv hco); subst hv; simp only [Act.put, putS]) | (refine wpList_bsS2 rfl _ _ rfl _ _ rfl rfl ?_; intro b_s2 wn hle hge ht hbn hzn; replace od := od.below (hbn.mono hle); have hsz := B.size; replace B := B.trans (hbn.mono (by omega)); have hln := Nat.lt_of_lt_of_eq (Nat.lt_succ_self _) hzn.symm; clear hzn; (try first | (have hlt := r1.lt; replace r1 := r1.of_eq (hbn.block _ (by omega))) | replace r1 := r1.below (hbn.mono hle)); (try first | (have hlt := p5.lt; replace p5 := p5.of_eq (hbn.block _ (by omega))) | replace p5 := p5.below (hbn.mono hle)); (try first | (have hlt := rc.lt; replace rc := rc.of_eq (hbn.block _ (by omega))) | replace rc := rc.below (hbn.mono hle)); have s2 := ht; clear ht; simp only [Act.put, putS]) | fail)
      refine NoPan.normal ?_
      go_wp2
      go_roundw
      case rel => exact ⟨k + 1, O ++ keyP ⟨x, y, t⟩, _, _, by omega, by go_num, by rw [List.length_append]; rfl, B, by omega, r1, by rw [List.length_append]; exact od, by rw [HP.out, HO.out]⟩
      case measure => simp [intOf]; omega
    · obtain rfl : k = LS.length := by omega
      have q1 : decide (((LS.length : Nat) : Int) < (LS.length : Int)) = false := decide_eq_false (by omega)
      have q2 : decide (LS.length < LS.length) = false := decide_eq_false (by omega)
      have hM := Lib.hid (show ∀ i, (sAt O i).size ≤ 100000 from by rw [HO.out]; exact partsK_size LS _)
      go_upto_region 4 with fail
      refine wp_region_lit ?_
      try simp only [List.getElem_toArray, List.getElem_cons_zero, List.getElem_cons_succ]
      refine wpList_chunk 3 (by kernel_rfl) ?_
      simp only [takS, Nat.reduceAdd]
      repeat (first | go_big_quiet_skip | (go_big_quiet_want; first | (refine quiet_loadAny (t := 28) rfl _ _ _ rfl (fun w hw => run_load_sl (ov_B r1 w hw).cell0) (by rfl) ?_; simp only [Act.put, putS]; go_big_quiet_on) | (go_big_quiet_op; go_big_quiet_on)))
      refine wpQuiet_nil ?_
      refine wpList_lenS (by first | rfl | simp [Region.wanted, yielded]) rfl Tryz.underlying28 rfl ?_
      simp only [Act.put, putS]
      refine wpList_chunk 1 (by kernel_rfl) ?_
      simp only [takS, Nat.reduceAdd]
      repeat (first | go_big_quiet_skip | (go_big_quiet_want; first | (go_big_quiet_op; go_big_quiet_on)))
      refine wpQuiet_nil ?_
      refine wpList_nil ?_
      have s1 := od.ownS.ls
      go_upto_region 8 with fail
      refine wp_region_lit ?_
      try simp only [List.getElem_toArray, List.getElem_cons_zero, List.getElem_cons_succ]
      refine wpList_chunk 1 (by kernel_rfl) ?_
      simp only [takS, Nat.reduceAdd]
      repeat (first | go_big_quiet_skip | (go_big_quiet_want; first | (go_big_quiet_op; go_big_quiet_on)))
      refine wpQuiet_nil ?_
      refine wpList_callF (by first | rfl | simp [Region.wanted, yielded]) rfl (enters_of Tryz.func32 (by kernel_rfl) rfl) (by simp only [List.map_toArray, List.map_cons, List.map_nil, Act.eval, Array.getD_eq_getD_getElem?, List.getElem?_toArray, List.getElem?_cons_succ, List.getElem?_cons_zero, Option.getD_some]; rfl) ?_
      refine (R_JoinL s1 (by omega) hM.out).mono ?_
      rintro e wn ⟨rfl, hbn⟩
      have hsz := B.size
      have hzn := hbn.size
      replace B := B.trans (hbn.mono B.size)
      (try first | replace r1 := r1.of_eq (hbn.block _ r1.lt) | replace r1 := r1.below hbn)
      (try first | replace p5 := p5.of_eq (hbn.block _ p5.lt) | replace p5 := p5.below hbn)
      (try first | replace rc := rc.of_eq (hbn.block _ rc.lt) | replace rc := rc.below hbn)
      (try first | replace od := od.of_eq (hbn.block _ od.lt) | replace od := od.below hbn)
      refine ⟨_, rfl, ?_⟩
      simp only [Act.put, putS]
      refine wpList_chunk 1 (by kernel_rfl) ?_
      simp only [takS, Nat.reduceAdd]
      repeat (first | go_big_quiet_skip | (go_big_quiet_want; first | (go_big_quiet_op; go_big_quiet_on)))
      refine wpQuiet_nil ?_
      refine wpList_nil ?_
      iterate 3 go_step
      go_ret
      exact ⟨by rw [HO.out]; rfl, B⟩
end Go.Proofs.YtppccnjckiedlaaGreatDoor
/- How this seat's arguments are opened: slices of integers, rectangles, generated rasters. -/
namespace Go.Proofs.YtppccnjckiedlaaGreatDoor
open Go.ChangeShapes Go.WideShapes Go.ChangeAt Go.RowKit Pl
set_option linter.unusedVariables false
set_option linter.unusedSimpArgs false
set_option maxRecDepth 20000

theorem reach_44 : reachBytes ≤ 140737488351232 := by decide
section
variable {H : Type} {enc : TypeId × Value → H} {w : World} {base : Nat} {spare : Nat → Bool} {held : Bool}
theorem addr_add0 (b off n : Nat) : (Addr.add ⟨b, off, none⟩ n) = ⟨b, off + n, none⟩ := by
  unfold Addr.add; split
  · rename_i h; subst h; rfl
  · rfl
theorem trod_ints {fuel : Nat} {cs : List Value} {x : DataW H × List MemPlace} (h : DataW.trod enc Tryz.prog w base spare held fuel 22 cs = some x) (hw : ∀ n ∈ x.1.weights Tryz.prog 22, n ≤ reachBytes) :
    ∃ v L, cs = [v] ∧ RSE inE v L w ∧ L.length ≤ 17592186044416 := by
  have hC : Tryz.prog.cellsOf 3 = 1 := by kernel_rfl
  have hB : Tryz.prog.bytesOf 3 = 8 := by kernel_rfl
  rcases open_ints Tryz.underlying22 Tryz.underlying3 hC h with ⟨rfl, rfl⟩ | ⟨a, len, cap, zs, rfl, _, hl, hcap, hz, rfl, hcell, _⟩
  · exact ⟨_, [], rfl, RSE.nil w, by simp⟩
  · have hzl : len ≤ zs.length := by rw [hz]; split <;> omega
    have htl : (zs.take len).length = len := by rw [List.length_take, Nat.min_eq_left hzl]
    refine ⟨_, zs.take len, rfl, ?_, ?_⟩
    · by_cases h0 : len = 0
      · subst h0; exact .inr (.inr ⟨a, cap, rfl, by simp⟩)
      · obtain ⟨b, off, spot⟩ := a
        have c0 := hcell 0 (by omega)
        have hspot : spot = none := by simpa [Addr.add] using World.cell?_spot c0
        subst hspot
        simp only [addr_add0] at hcell c0
        refine .inr (.inl ⟨b, off, cap, by rw [htl], by rw [htl]; exact hl, fun _ => ⟨World.block_lt_of_cell? w _ c0, fun i x hi j hj => ?_⟩⟩)
        obtain rfl : j = 0 := by omega
        have hil : i < len := by rw [← htl]; exact (List.getElem?_eq_some_iff.1 hi).1
        rw [List.getElem?_take_of_lt hil] at hi
        rw [Nat.mul_one, Nat.add_zero, hcell i (by omega), List.getD_eq_getElem?_getD, hi]
        rfl
    · rw [htl]
      have := hw ((len + (zs.length - len)) * 8) (by simp [DataW.weights, Tryz.underlying22, hB, lits, Nat.min_eq_left hzl])
      have := reach_44
      omega
theorem open_ints1 {r : Reach} {b0 : Nat} {v : Value} {d : DataW H} {p : List MemPlace} (hv : Value.okWide Tryz.prog w r b0 22 v)
    (h : DataW.Trod enc Tryz.prog w base spare held 22 v d p) (hw : ∀ n ∈ d.weights Tryz.prog 22, n ≤ reachBytes) : ∃ L, RSE inE v L w ∧ L.length ≤ 17592186044416 := by
  obtain ⟨a0, len, cap, rfl⟩ := okWide_slice Tryz.underlying22 hv
  obtain ⟨fuel, hf⟩ := h
  obtain ⟨v', L, e, h1, h2⟩ := trod_ints hf hw
  simp [Value.cells] at e
  subst e
  exact ⟨L, h1, h2⟩
theorem trod_int1 {fuel : Nat} {cs : List Value} {x : DataW H × List MemPlace} (h : DataW.trod enc Tryz.prog w base spare held fuel 3 cs = some x) : ∃ n : Int, cs = [.int .i64 n] ∧ (Lit.int .i64 n).wf = true := by
  obtain ⟨n, e, _, wf⟩ := DataW.trod_int Tryz.underlying3 h
  exact ⟨n, e, wf⟩
theorem trod_tpos {fuel : Nat} {c0 c1 : Value} {x : DataW H × List MemPlace} (h : DataW.trod enc Tryz.prog w base spare held fuel 24 [c0, c1] = some x) :
    ∃ a b : Int, c0 = .int .i64 a ∧ c1 = .int .i64 b ∧ (Lit.int .i64 a).wf = true ∧ (Lit.int .i64 b).wf = true := by
  have hC : Tryz.prog.cellsOf 3 = 1 := by kernel_rfl
  obtain ⟨y0, y1, n, _, _, h0, h1⟩ := trod_struct2 Tryz.underlying24 h
  simp only [hC, List.drop_zero, List.drop_succ_cons, List.take_succ_cons, List.take_zero] at h0 h1
  obtain ⟨a, ea, wa⟩ := trod_int1 h0
  obtain ⟨b, eb, wb⟩ := trod_int1 h1
  simp at ea eb
  exact ⟨a, b, ea, eb, wa, wb⟩
theorem array6 {α : Type} {cs : Array α} (h : cs.size = 6) : ∃ c0 c1 c2 c3 c4 c5, cs = #[c0, c1, c2, c3, c4, c5] := by
  obtain ⟨l⟩ := cs
  match l, h with
  | [c0, c1, c2, c3, c4, c5], _ => exact ⟨c0, c1, c2, c3, c4, c5, rfl⟩
theorem open_raw {r : Reach} {b0 : Nat} {v : Value} {d : DataW H} {p : List MemPlace} (hv : Value.okWide Tryz.prog w r b0 26 v)
    (h : DataW.Trod enc Tryz.prog w base spare held 26 v d p) (hw : ∀ n ∈ d.weights Tryz.prog 26, n ≤ reachBytes) :
    ∃ (q : RawQ) (vL vT : Value) (L T : List Int), v = .agg #[vL, .int .i64 q.at_, .int .i64 q.px, .int .i64 q.py, vT, .int .i64 q.how] ∧ RSE inE vL L w ∧ L.length ≤ 17592186044416 ∧ RSE inE vT T w ∧ T.length ≤ 17592186044416 := by
  obtain ⟨cs, rfl, hsz⟩ := okWide_struct Tryz.underlying26 hv
  have hC : Tryz.prog.cellsOf 3 = 1 := by kernel_rfl
  have hC2 : Tryz.prog.cellsOf 24 = 2 := by kernel_rfl
  have hCs : Tryz.prog.cellsOf 22 = 1 := by kernel_rfl
  have hCR : Tryz.prog.cellsOf 26 = 6 := by kernel_rfl
  obtain ⟨c0, c1, c2, c3, c4, c5, rfl⟩ := array6 (hsz.trans hCR)
  obtain ⟨fuel, hf⟩ := h
  obtain ⟨xs, n, _, hx, hl, hlen, hfs⟩ := DataW.trod_struct Tryz.underlying26 hf
  match xs, hlen with
  | [y0, y1, y2, y3, y4], _ =>
    have h0 := hfs 0 _ rfl
    have h1 := hfs 1 _ rfl
    have h2 := hfs 2 _ rfl
    have h3 := hfs 3 _ rfl
    have h4 := hfs 4 _ rfl
    simp only [Value.cells, hC, hC2, hCs, List.drop_zero, List.drop_succ_cons, List.take_succ_cons, List.take_zero, List.getElem_toArray, List.getElem_cons_zero, List.getElem_cons_succ] at h0 h1 h2 h3 h4
    have hd : d = .agg [y0.1, y1.1, y2.1, y3.1, y4.1] := (Prod.mk.inj hx).1
    have hww : ∀ n, n ∈ y0.1.weights Tryz.prog 22 ∨ n ∈ y3.1.weights Tryz.prog 22 → n ≤ reachBytes := fun n hn => by
      refine hw n ?_
      rw [hd]
      simp only [DataW.weights, Tryz.underlying26]
      simp only [List.map_cons, List.map_nil, DataW.weightsEach, List.mem_append]
      rcases hn with hn | hn
      · exact .inl hn
      · exact .inr (.inr (.inr (.inl hn)))
    obtain ⟨vL, L, eL, rL, lL⟩ := trod_ints h0 fun n hn => hww n (.inl hn)
    obtain ⟨at_, ea, _⟩ := trod_int1 h1
    obtain ⟨px, py, e2, e3, _, _⟩ := trod_tpos h2
    obtain ⟨vT, T, eT, rT, lT⟩ := trod_ints h3 fun n hn => hww n (.inr hn)
    obtain ⟨how, eh, _⟩ := trod_int1 h4
    simp at eL ea eT eh
    subst eL; subst ea; subst e2; subst e3; subst eT; subst eh
    exact ⟨⟨at_, px, py, how⟩, _, _, L, T, rfl, rL, lL, rT, lT⟩
end
end Go.Proofs.YtppccnjckiedlaaGreatDoor
/- Plain: the pixels that Image makes are the raster's pixels, row by row. -/
namespace Go.Proofs.YtppccnjckiedlaaGreatDoor
open Go.RowKit Pl
set_option linter.unusedVariables false
set_option linter.unusedSimpArgs false
/-- The pixel number j of a rectangle. -/
def widN (c : Rc) : Nat := (c.x1 - c.x0).toNat
def pxX (c : Rc) (j : Nat) : Int := c.x0 + ((j % widN c : Nat) : Int)
def pxY (c : Rc) (j : Nat) : Int := c.y0 + ((j / widN c : Nat) : Int)
def imgL (c : Rc) (ks : List TA) : List Px := (List.range (areaN c)).map fun j => getL ks (pxX c j) (pxY c j)
/-- The place of a pixel in its tile. -/
def inT (x y : Int) : Nat := (8 * (y % 8) + x % 8).toNat
end Go.Proofs.YtppccnjckiedlaaGreatDoor
/- Plain: a raster after pixel updates, by its pixels; grids of 32 times 32 pixels. -/
namespace Go.Proofs.YtppccnjckiedlaaGreatDoor
open Go.RowKit Pl
set_option linter.unusedVariables false
set_option linter.unusedSimpArgs false
/-- A pixel update, as the law sends it. -/
structure Dt where
  x : Int
  y : Int
  p : Px
/-- All positions lie near the origin. -/
def Small (r : List TA) : Prop := ∀ e ∈ r, -2 ≤ e.x ∧ e.x ≤ 1 ∧ -2 ≤ e.y ∧ e.y ≤ 1
section
variable {r : List TA} {X Y : Int} {p : Px} (hv : validL r = true) (hs : Small r) (hX : -16 ≤ X ∧ X ≤ 15) (hY : -16 ≤ Y ∧ Y ≤ 15)
end
/-- The raster after the first k updates. -/
def dotX (d : Dt) : Int := d.x % 32 - 16
def dotY (d : Dt) : Int := d.y % 32 - 16
def dAt (l : List Dt) (k : Nat) : Dt := l.getD k ⟨0, 0, Px.zero⟩
def dotR (l : List Dt) : Nat → List TA
  | 0 => []
  | k + 1 => setR (dotR l k) (dotX (dAt l k)) (dotY (dAt l k)) (dAt l k).p
/-- The pixels wanted. -/
def dotW (l : List Dt) : Nat → Nat → Px
  | 0 => fun _ => Px.zero
  | k + 1 => upd (dotW l k) (((dAt l k).y % 32).toNat * 32 + ((dAt l k).x % 32).toNat) (cleanP (dAt l k).p)
/-! ### Grids -/
def gridC (f : Nat → Px) : Array Value := Array.ofFn (n := 4096) fun k => pxC (f (k.val / 4)) (k.val % 4)
end Go.Proofs.YtppccnjckiedlaaGreatDoor
/- The pixel at a column and a row of a rectangle. -/
namespace Go.Proofs.YtppccnjckiedlaaGreatDoor
open Go.RowKit Go.Shelf Pl
end Go.Proofs.YtppccnjckiedlaaGreatDoor
/- Plain: the positions of a rectangle's tiles; what Paste computes. -/
namespace Go.Proofs.YtppccnjckiedlaaGreatDoor
open Go.RowKit Pl
set_option linter.unusedVariables false
set_option linter.unusedSimpArgs false
/-- The rectangle of the tiles that a rectangle meets. -/
def tlR (c : Rc) : Rc := ⟨c.x0 / 8, c.y0 / 8, (c.x1 - 1) / 8 + 1, (c.y1 - 1) / 8 + 1⟩
def tlN (c : Rc) : Nat := areaN (tlR c)
def posP (c : Rc) (k : Nat) : Int × Int := (pxX (tlR c) k, pxY (tlR c) k)
def posL (c : Rc) : List (Int × Int) := (List.range (tlN c)).map (posP c)
/-! ### Pasting -/
def pixL (c : Rc) (L : List Px) (X Y : Int) : Px := L.getD (idxI c X Y).toNat Px.zero
def pstP (c : Rc) (L : List Px) (X Y : Int) (p : Px) : Px := if hasR c X Y = true then cleanP (pixL c L X Y) else p
def pstT (c : Rc) (L : List Px) (x y : Int) (t : Nat → Px) : Nat → Px := fun i => if i < 64 then pstP c L (x * 8 + (i : Int) % 8) (y * 8 + (i : Int) / 8) (t i) else t i
def pstF (c : Rc) (L : List Px) (_ : Unit) (X Y : Int) (p : Px) : Unit × Px := ((), pstP c L X Y p)
def OkL (L : List Px) : Prop := ∀ p ∈ L, p.ok
def CleanL (ls : List TA) : Prop := ∀ e ∈ ls, eqT (cleanT e.t) e.t = true
def pst1 (c : Rc) (L : List Px) (ls : List TA) (p : Int × Int) : List TA := putL ls p.1 p.2 (pstT c L p.1 p.2 (tileL ls p.1 p.2))
def pstL (c : Rc) (L : List Px) (ls : List TA) (ps : List (Int × Int)) : List TA := ps.foldl (pst1 c L) ls
def pstE (c : Rc) (L : List Px) (ls : List TA) : Int := if validR c = true ∧ (L.length : Int) = areaR c then (if fitsE c = 0 then manyE (pstL c L (fineL ls) (posL c)) else fitsE c) else 1
def pstR (c : Rc) (L : List Px) (ls : List TA) : List TA := if validR c = true ∧ (L.length : Int) = areaR c then (if fitsE c = 0 then manyL (pstL c L (fineL ls) (posL c)) else []) else []
theorem RS.congr {v : Value} {ls ks : List TA} {w : World} (h : RS v ls w) (hl : ls.length = ks.length) (hr : rowC ls = rowC ks) : RS v ks w := by
  rcases h with ⟨h1, rfl⟩ | ⟨g, o, c, e, hc, sc⟩
  · exact .inl ⟨h1, List.eq_nil_of_length_eq_zero hl.symm⟩
  · refine .inr ⟨g, o, c, by rw [← hl]; exact e, by omega, fun hn => ⟨(sc (by omega)).1, fun i hi j hj => ?_⟩⟩
    rw [(sc (by omega)).2 i (by omega) j hj, ← rowC_at ls i j (by omega) hj, hr, rowC_at ks i j hi hj]
end Go.Proofs.YtppccnjckiedlaaGreatDoor
/- Plain: the positions at which two rasters differ, in order; replacing them. -/
namespace Go.Proofs.YtppccnjckiedlaaGreatDoor
open Go.RowKit Pl
set_option linter.unusedVariables false
set_option linter.unusedSimpArgs false
def ltP (a b : Int × Int) : Bool := lessB a.1 a.2 b.1 b.2
def posA (e : TA) : Int × Int := (e.x, e.y)
def SrtP (l : List (Int × Int)) : Prop := l.Pairwise fun a b => ltP a b = true
theorem eqT_symm {t u : Nat → Px} (h : eqT t u = true) : eqT u t = true := eqT_true fun i hi => (eqT_at h hi).symm
theorem eqT_comm (t u : Nat → Px) : eqT t u = eqT u t := by
  rw [Bool.eq_iff_iff]
  exact ⟨eqT_symm, eqT_symm⟩
/-- No tile without a visible pixel. -/
def Nz (ls : List TA) : Prop := ∀ e ∈ ls, zeroB e.t = false
def Diff (a b : List TA) (p : Int × Int) : Prop := eqT (tileL a p.1 p.2) (tileL b p.1 p.2) = false
theorem Diff.symm {a b : List TA} {p : Int × Int} (h : Diff a b p) : Diff b a p := by unfold Diff at *; rw [eqT_comm]; exact h
/-! ### Changed of package raster: two lists merged -/
def chgP : List TA → List TA → List (Int × Int)
  | [], [] => []
  | [], e :: r => posA e :: chgP [] r
  | d :: q, [] => posA d :: chgP q []
  | d :: q, e :: r => if lessB d.x d.y e.x e.y = true then posA d :: chgP q (e :: r) else if lessB e.x e.y d.x d.y = true then posA e :: chgP (d :: q) r else (if eqT d.t e.t = true then [] else [posA d]) ++ chgP q r
termination_by a b => a.length + b.length
/-! ### Changed of the reference: what differs of the first, then the second's inserted -/
def insP : List (Int × Int) → Int × Int → List (Int × Int)
  | [], p => [p]
  | q :: r, p => if q = p then q :: r else if ltP p q = true then p :: q :: r else q :: insP r p
def chg1 (a b : List TA) : List (Int × Int) := (a.filter fun e => !eqT e.t (tileL b e.x e.y)).map posA
def chg2 (a : List TA) (o : List (Int × Int)) (b : List TA) : List (Int × Int) := b.foldl (fun o e => if eqT e.t (tileL a e.x e.y) = true then o else insP o (posA e)) o
def chgR (a b : List TA) : List (Int × Int) := chg2 a (chg1 a b) b
theorem eqL_cons (d : TA) (q : List TA) (e : TA) (r : List TA) : eqL (d :: q) (e :: r) = (eqA d e && eqL q r) := by
  rw [Bool.eq_iff_iff, Bool.and_eq_true_iff]
  unfold eqL
  rw [Bool.and_eq_true_iff, Bool.and_eq_true_iff, decide_eq_true_iff, decide_eq_true_iff, decide_eq_true_iff, decide_eq_true_iff]
  simp only [List.length_cons, List.mem_range, Nat.add_right_cancel_iff]
  constructor
  · rintro ⟨h1, h2⟩
    exact ⟨h2 0 (by omega), h1, fun i hi => h2 (i + 1) (by omega)⟩
  · rintro ⟨h1, h2, h3⟩
    refine ⟨h2, fun i hi => ?_⟩
    cases i with
    | zero => exact h1
    | succ i => exact h3 i (by omega)
/-! ### The changed tiles replaced -/
def mv1 (b : List TA) (s : List TA) (p : Int × Int) : List TA := putR s p.1 p.2 (tileL b p.1 p.2)
def mvL (b : List TA) (s : List TA) (ps : List (Int × Int)) : List TA := ps.foldl (mv1 b) s
theorem madeL_len40 (L : List Int) : (madeL L).length ≤ 40 := by
  have : ∀ k, (madeK L k).length ≤ k := by
    intro k
    induction k with
    | zero => exact Nat.le_refl _
    | succ k ih =>
      show (if _ then _ else _ : List TA).length ≤ _
      split
      · unfold setR putR
        split
        · unfold manyL
          split
          · have h1 := putL_length (fineL (madeK L k)) ((pickI L (3 * k) 48 - 20) / 8) ((pickI L (3 * k + 1) 48 - 20) / 8) (cleanT (setS (madeK L k) (pickI L (3 * k) 48 - 20) (pickI L (3 * k + 1) 48 - 20) (madeP (getI L (3 * k + 2)))))
            have h2 := fineL_le (madeK L k)
            omega
          · simp
        · simp
      · omega
  exact this 40
end Go.Proofs.YtppccnjckiedlaaGreatDoor
namespace Go.Proofs.YtppccnjckiedlaaGreatDoor
open Go.RowKit Go.Shelf Pl Sha
set_option linter.unusedVariables false
set_option linter.unusedSimpArgs false
set_option maxRecDepth 20000
theorem ofL_len41 (q : RawQ) (L T : List Int) : (ofRL q L T).length ≤ 41 := by
  have := madeL_len40 L
  unfold ofRL ofR
  split
  · omega
  · split
    · rw [List.length_append]; simp; omega
    · rw [List.length_set]; omega
theorem keyS_congr {t u : Nat → Px} (h : eqT t u = true) : keyS t = keyS u := by
  unfold keyS
  rw [tbK_congr 64 fun i hi => eqT_at h hi]
theorem parts_congr : ∀ {a b : List TA}, eqL a b = true → a.flatMap keyP = b.flatMap keyP
  | [], [], _ => rfl
  | [], e :: r, h => by rw [eqL_len (by simp)] at h; cases h
  | d :: q, [], h => by rw [eqL_len (by simp)] at h; cases h
  | d :: q, e :: r, h => by
    rw [eqL_cons, Bool.and_eq_true_iff] at h
    obtain ⟨h1, h2⟩ := h
    unfold eqA at h1
    obtain ⟨h3, h4⟩ := Bool.and_eq_true_iff.1 h1
    have h3 := of_decide_eq_true h3
    rw [List.flatMap_cons, List.flatMap_cons, parts_congr h2]
    congr 1
    unfold keyP
    rw [h3.1, h3.2, keyS_congr h4]
theorem keyR_congr {a b : List TA} (h : eqL a b = true) : keyR a = keyR b := by
  unfold keyR partsK
  rw [List.take_length, List.take_length, parts_congr h]
theorem P_KeyO (v : Value) (ls : List TA) (K : ByteArray) (w : World) (h : RS v ls w) (tk : TokL ls) (hn : ls.length ≤ maxLen) (h5 : (fineL ls).length ≤ 400) (gs : GAt 0 8 w Sha.start.at) (kt : GAt 1 64 w kW) (e : keyR (fineL ls) = K) : Calls Tryz.prog 9 #[.agg #[v]] w fun e w' => e = .returned (.string K) ∧ Below w.heap.size w w' := e ▸ P_KeyR v ls w h tk hn h5 gs kt
theorem R_KeyO (v : Value) (ls : List TA) (K : ByteArray) (w : World) (h : RS v ls w) (tk : TokL ls) (hn : ls.length ≤ maxLen) (h5 : (fineL ls).length ≤ 400) (e : keyR (fineL ls) = K) : Calls Tryz.prog 10 #[.agg #[v]] w fun e w' => e = .returned (.string K) ∧ Below w.heap.size w w' := e ▸ R_KeyR v ls w h tk hn h5
theorem P_EqualO (v u : Value) (ls ks : List TA) (b : Bool) (w : World) (h : RS v ls w) (h' : RS u ks w) (tk : TokL ls) (tk' : TokL ks) (hn : ls.length ≤ maxLen) (hn' : ks.length ≤ maxLen) (e : eqL (fineL ls) (fineL ks) = b) : Calls Tryz.prog 12 #[.agg #[v], .agg #[u]] w fun e w' => e = .returned (.bool b) ∧ Below w.heap.size w w' := e ▸ P_Equal v u ls ks w h h' tk tk' hn hn'
theorem P_JoinO {v : Value} {ls : List ByteArray} {w : World} (h : LS v ls w) (hn : ls.length ≤ 1000) (hM : ∀ k, (sAt ls k).size ≤ 100000) (gs : GAt 0 8 w Sha.start.at) (kt : GAt 1 64 w kW) (K : ByteArray) (e : JL ls = K) : Calls Tryz.prog 11 #[v] w fun e w' => e = .returned (.string K) ∧ Below w.heap.size w w' := e ▸ P_JoinL h hn hM gs kt
theorem S_ValidT (s : ByteArray) (w : World) (h : s.size = 32) : Calls Tryz.prog 13 #[.string s] w fun e w' => e = .returned (.bool true) ∧ Below w.heap.size w w' :=
  (P_ValidD (bytes s) w (by rw [bytes_length, h]; decide)).mono fun e w' ⟨he, hw⟩ => by
    subst hw
    refine ⟨?_, Below.refl _ _⟩
    rw [he, bytes_length, h]
    rfl
set_option maxHeartbeats 16000000 in
theorem walk_RasterKey (q : RawQ) (vL vT : Value) (L T : List Int) (vl : Value) (Ls : List Int) (w : World) (gs : GAt 0 8 w Sha.start.at) (kt : GAt 1 64 w kW) (hL : RSE inE vL L w) (hLn : L.length ≤ 17592186044416) (hT : RSE inE vT T w) (hTn : T.length ≤ 17592186044416) (hl : RSE inE vl Ls w) (hlsn : Ls.length ≤ 17592186044416) :
    Calls Tryz.prog 3 #[.agg #[vL, .int .i64 q.at_, .int .i64 q.px, .int .i64 q.py, vT, .int .i64 q.how], vl] w fun e w' => e = .returned (.bool true) ∧ Below w.heap.size w w' := by
  have B := Below.refl w.heap.size w
  obtain ⟨al, cl, rfl, hcl⟩ := hl.len
  have HL := Lib.hid hL
  have HT := Lib.hid hT
  have HLS := Lib.hid hl
  clear hL hT hl
  have n1 := Lib.hid (len_maxLen (Nat.le_trans (ofL_len q L T) (by omega)))
  have n2 := Lib.hid (len_maxLen (Nat.le_trans (madeL_len L) (by omega)))
  have n3 := Lib.hid (len_maxLen (Nat.le_trans (madeL_len Ls) (by omega)))
  have hA40 := madeL_len40 L
  have hB40 := madeL_len40 Ls
  have VA := Lib.hid (madeL_valid L)
  have VB := Lib.hid (madeL_valid Ls)
  have F2 := Lib.hid (fineL_of VA.out)
  have F3 := Lib.hid (fineL_of VB.out)
  have m1 := Lib.hid (show (fineL (ofRL q L T)).length ≤ 400 from Nat.le_trans (fineL_le _) (Nat.le_trans (ofL_len41 q L T) (by omega)))
  have m2 := Lib.hid (show (fineL (madeL L)).length ≤ 400 from by rw [F2.out]; omega)
  have m3 := Lib.hid (show (fineL (madeL Ls)).length ≤ 400 from by rw [F3.out]; omega)
  obtain ⟨K1, hK1⟩ : ∃ K, keyR (fineL (ofRL q L T)) = K := ⟨_, rfl⟩
  have z1 := Lib.hid (show K1.size = 32 from by rw [← hK1]; exact JL_size _)
  have HK1 := Lib.hid hK1
  clear hK1
  obtain ⟨K2, hK2⟩ : ∃ K, keyR (madeL L) = K := ⟨_, rfl⟩
  have HK2 := Lib.hid hK2
  have HK2f := Lib.hid (show keyR (fineL (madeL L)) = K2 from by rw [F2.out]; exact hK2)
  clear hK2
  go_enter Tryz.func3, Tryz.ntmps3
  go_upto_region 0 with fail
  refine wp_region_lit ?_
  try simp only [List.getElem_toArray, List.getElem_cons_zero, List.getElem_cons_succ]
  (refine wpList_boxB (t := 26) rfl _ rfl _ rfl ?_; intro b_q2 wn hle hge ht hbn hzn; have hsz := B.size; replace B := B.trans (hbn.mono (by omega)); have hln := Nat.lt_of_lt_of_eq (Nat.lt_succ_self _) hzn.symm; clear hzn; (try first | (have hlt := gs.lt; replace gs := gs.of_eq (hbn.block _ (by omega))) | replace gs := gs.below (hbn.mono hle)); (try first | (have hlt := kt.lt; replace kt := kt.of_eq (hbn.block _ (by omega))) | replace kt := kt.below (hbn.mono hle)); have q2 := ht; clear ht; simp only [Act.put, putS])
  refine wpList_chunk 1 (by kernel_rfl) ?_
  simp only [takS, Nat.reduceAdd]
  repeat (first | go_big_quiet_skip | (go_big_quiet_want; first | (go_big_quiet_op; go_big_quiet_on)))
  refine wpQuiet_nil ?_
  refine wpList_nil ?_
  go_upto_region 1 with fail
  refine wp_region_lit ?_
  try simp only [List.getElem_toArray, List.getElem_cons_zero, List.getElem_cons_succ]
  refine wpList_callF (by first | rfl | simp [Region.wanted, yielded]) rfl (enters_of Tryz.func4 (by kernel_rfl) rfl) (by simp only [List.map_toArray, List.map_cons, List.map_nil, Act.eval, Array.getD_eq_getD_getElem?, List.getElem?_toArray, List.getElem?_cons_succ, List.getElem?_cons_zero, Option.getD_some]; rfl) ?_
  refine (sanity08 _).mono ?_
  rintro e wn ⟨rfl, hbn⟩
  have hsz := B.size
  have hzn := hbn.size
  replace B := B.trans (hbn.mono B.size)
  (try first | replace q2 := q2.of_eq (hbn.block _ q2.lt) | replace q2 := q2.below hbn)
  (try first | replace gs := gs.of_eq (hbn.block _ gs.lt) | replace gs := gs.below hbn)
  (try first | replace kt := kt.of_eq (hbn.block _ kt.lt) | replace kt := kt.below hbn)
  refine ⟨_, rfl, ?_⟩
  simp only [Act.put, putS]
  refine wpList_chunk 1 (by kernel_rfl) ?_
  simp only [takS, Nat.reduceAdd]
  repeat (first | go_big_quiet_skip | (go_big_quiet_want; first | (go_big_quiet_op; go_big_quiet_on)))
  refine wpQuiet_nil ?_
  refine wpList_nil ?_
  go_upto_region 2 with fail
  refine wp_region_lit ?_
  try simp only [List.getElem_toArray, List.getElem_cons_zero, List.getElem_cons_succ]
  refine wpList_chunk 1 (by kernel_rfl) ?_
  simp only [takS, Nat.reduceAdd]
  repeat (first | go_big_quiet_skip | (go_big_quiet_want; first | (refine quiet_loadAny (t := 26) rfl _ _ _ rfl (fun w hw => run_load_B (ov_B q2 w hw) Tryz.isAgg26 (by kernel_rfl)) (by rfl) ?_; simp only [Act.put, putS]; go_big_quiet_on) | (go_big_quiet_op; go_big_quiet_on)))
  refine wpQuiet_nil ?_
  refine wpList_callF (by first | rfl | simp [Region.wanted, yielded]) rfl (enters_of Tryz.func5 (by kernel_rfl) rfl) (by simp only [List.map_toArray, List.map_cons, List.map_nil, Act.eval, Array.getD_eq_getD_getElem?, List.getElem?_toArray, List.getElem?_cons_succ, List.getElem?_cons_zero, Option.getD_some]; rfl) ?_
  refine (L_ofO q _ _ L T _ (HL.out.below B) hLn (HT.out.below B) hTn).mono ?_
  rintro e wn ⟨a1, c1, rfl, rs1, hbn⟩
  have hsz := B.size
  have hzn := hbn.size
  replace B := B.trans (hbn.mono B.size)
  (try first | replace q2 := q2.of_eq (hbn.block _ q2.lt) | replace q2 := q2.below hbn)
  (try first | replace gs := gs.of_eq (hbn.block _ gs.lt) | replace gs := gs.below hbn)
  (try first | replace kt := kt.of_eq (hbn.block _ kt.lt) | replace kt := kt.below hbn)
  (try first | replace rs1 := rs1.of_eq (hbn.block _ rs1.lt) | replace rs1 := rs1.below hbn)
  refine ⟨_, rfl, ?_⟩
  simp only [Act.put, putS]
  (refine wpList_allocBk (t := 30) rfl _ (run_alloc_R _ _ rfl) ?_; intro b_r6 wn hle hge ht hbn hzn; have hsz := B.size; replace B := B.trans (hbn.mono (by omega)); have hln := Nat.lt_of_lt_of_eq (Nat.lt_succ_self _) hzn.symm; clear hzn; (try first | (have hlt := q2.lt; replace q2 := q2.of_eq (hbn.block _ (by omega))) | replace q2 := q2.below (hbn.mono hle)); (try first | (have hlt := gs.lt; replace gs := gs.of_eq (hbn.block _ (by omega))) | replace gs := gs.below (hbn.mono hle)); (try first | (have hlt := kt.lt; replace kt := kt.of_eq (hbn.block _ (by omega))) | replace kt := kt.below (hbn.mono hle)); (try first | (have hlt := rs1.lt; replace rs1 := rs1.of_eq (hbn.block _ (by omega))) | replace rs1 := rs1.below (hbn.mono hle)); have r6 := ht; clear ht; simp only [Act.put, putS])
  (refine wpList_storeB (t := 30) rfl _ _ rfl _ rfl _ rfl r6 (by kernel_rfl) rfl (by simp [Value.oneCell']) ?_; have r6o := r6; clear r6; intro wn ht hcn hzn; (try replace rs1 := rs1.chg r6o (by simp [rcA]) hcn); (try replace rs2 := rs2.chg r6o (by simp [rcA]) hcn); (try replace rs3 := rs3.chg r6o (by simp [rcA]) hcn); have hsz := B.size; replace hzn := Nat.le_of_eq hzn.symm; replace B := Chg.below B hcn (by omega) B.size; (try replace q2 := q2.of_eq (hcn.block _ q2.lt (by omega))); (try replace gs := gs.of_eq (hcn.block _ gs.lt (by omega))); (try replace kt := kt.of_eq (hcn.block _ kt.lt (by omega))); (try replace rs1 := rs1.of_eq (hcn.block _ rs1.lt (by omega))); have r6 := ht; clear ht; simp only [Act.put, putS])
  refine wpList_nil ?_
  go_upto_region 3 with fail
  refine wp_region_lit ?_
  try simp only [List.getElem_toArray, List.getElem_cons_zero, List.getElem_cons_succ]
  refine wpList_chunk 2 (by kernel_rfl) ?_
  simp only [takS, Nat.reduceAdd]
  repeat (first | go_big_quiet_skip | (go_big_quiet_want; first | (refine quiet_loadAny (t := 22) rfl _ _ _ rfl (fun w hw => run_load_sli ((ov_B q2 w hw).cell 0 rfl)) (by rfl) ?_; simp only [Act.put, putS]; go_big_quiet_on) | (go_big_quiet_op; go_big_quiet_on)))
  refine wpQuiet_nil ?_
  refine wpList_callF (by first | rfl | simp [Region.wanted, yielded]) rfl (enters_of Tryz.func6 (by kernel_rfl) rfl) (by simp only [List.map_toArray, List.map_cons, List.map_nil, Act.eval, Array.getD_eq_getD_getElem?, List.getElem?_toArray, List.getElem?_cons_succ, List.getElem?_cons_zero, Option.getD_some]; rfl) ?_
  refine (R_Made8O _ L _ (HL.out.below B) hLn).mono ?_
  rintro e wn ⟨a2, c2, rfl, rs2, hbn⟩
  have hsz := B.size
  have hzn := hbn.size
  replace B := B.trans (hbn.mono B.size)
  (try first | replace q2 := q2.of_eq (hbn.block _ q2.lt) | replace q2 := q2.below hbn)
  (try first | replace r6 := r6.of_eq (hbn.block _ r6.lt) | replace r6 := r6.below hbn)
  (try first | replace gs := gs.of_eq (hbn.block _ gs.lt) | replace gs := gs.below hbn)
  (try first | replace kt := kt.of_eq (hbn.block _ kt.lt) | replace kt := kt.below hbn)
  (try first | replace rs1 := rs1.of_eq (hbn.block _ rs1.lt) | replace rs1 := rs1.below hbn)
  (try first | replace rs2 := rs2.of_eq (hbn.block _ rs2.lt) | replace rs2 := rs2.below hbn)
  refine ⟨_, rfl, ?_⟩
  simp only [Act.put, putS]
  (refine wpList_allocBk (t := 30) rfl _ (run_alloc_R _ _ rfl) ?_; intro b_r7 wn hle hge ht hbn hzn; have hsz := B.size; replace B := B.trans (hbn.mono (by omega)); have hln := Nat.lt_of_lt_of_eq (Nat.lt_succ_self _) hzn.symm; clear hzn; (try first | (have hlt := q2.lt; replace q2 := q2.of_eq (hbn.block _ (by omega))) | replace q2 := q2.below (hbn.mono hle)); (try first | (have hlt := r6.lt; replace r6 := r6.of_eq (hbn.block _ (by omega))) | replace r6 := r6.below (hbn.mono hle)); (try first | (have hlt := gs.lt; replace gs := gs.of_eq (hbn.block _ (by omega))) | replace gs := gs.below (hbn.mono hle)); (try first | (have hlt := kt.lt; replace kt := kt.of_eq (hbn.block _ (by omega))) | replace kt := kt.below (hbn.mono hle)); (try first | (have hlt := rs1.lt; replace rs1 := rs1.of_eq (hbn.block _ (by omega))) | replace rs1 := rs1.below (hbn.mono hle)); (try first | (have hlt := rs2.lt; replace rs2 := rs2.of_eq (hbn.block _ (by omega))) | replace rs2 := rs2.below (hbn.mono hle)); have r7 := ht; clear ht; simp only [Act.put, putS])
  (refine wpList_storeB (t := 30) rfl _ _ rfl _ rfl _ rfl r7 (by kernel_rfl) rfl (by simp [Value.oneCell']) ?_; have r7o := r7; clear r7; intro wn ht hcn hzn; (try replace rs1 := rs1.chg r7o (by simp [rcA]) hcn); (try replace rs2 := rs2.chg r7o (by simp [rcA]) hcn); (try replace rs3 := rs3.chg r7o (by simp [rcA]) hcn); have hsz := B.size; replace hzn := Nat.le_of_eq hzn.symm; replace B := Chg.below B hcn (by omega) B.size; (try replace q2 := q2.of_eq (hcn.block _ q2.lt (by omega))); (try replace r6 := r6.of_eq (hcn.block _ r6.lt (by omega))); (try replace gs := gs.of_eq (hcn.block _ gs.lt (by omega))); (try replace kt := kt.of_eq (hcn.block _ kt.lt (by omega))); (try replace rs1 := rs1.of_eq (hcn.block _ rs1.lt (by omega))); (try replace rs2 := rs2.of_eq (hcn.block _ rs2.lt (by omega))); have r7 := ht; clear ht; simp only [Act.put, putS])
  refine wpList_nil ?_
  go_upto_region 4 with fail
  refine wp_region_lit ?_
  try simp only [List.getElem_toArray, List.getElem_cons_zero, List.getElem_cons_succ]
  refine wpList_chunk 1 (by kernel_rfl) ?_
  simp only [takS, Nat.reduceAdd]
  repeat (first | go_big_quiet_skip | (go_big_quiet_want; first | (go_big_quiet_op; go_big_quiet_on)))
  refine wpQuiet_nil ?_
  refine wpList_callF (by first | rfl | simp [Region.wanted, yielded]) rfl (enters_of Tryz.func6 (by kernel_rfl) rfl) (by simp only [List.map_toArray, List.map_cons, List.map_nil, Act.eval, Array.getD_eq_getD_getElem?, List.getElem?_toArray, List.getElem?_cons_succ, List.getElem?_cons_zero, Option.getD_some]; rfl) ?_
  refine (R_Made8O _ Ls _ (HLS.out.below B) hlsn).mono ?_
  rintro e wn ⟨a3, c3, rfl, rs3, hbn⟩
  have hsz := B.size
  have hzn := hbn.size
  replace B := B.trans (hbn.mono B.size)
  (try first | replace q2 := q2.of_eq (hbn.block _ q2.lt) | replace q2 := q2.below hbn)
  (try first | replace r6 := r6.of_eq (hbn.block _ r6.lt) | replace r6 := r6.below hbn)
  (try first | replace r7 := r7.of_eq (hbn.block _ r7.lt) | replace r7 := r7.below hbn)
  (try first | replace gs := gs.of_eq (hbn.block _ gs.lt) | replace gs := gs.below hbn)
  (try first | replace kt := kt.of_eq (hbn.block _ kt.lt) | replace kt := kt.below hbn)
  (try first | replace rs1 := rs1.of_eq (hbn.block _ rs1.lt) | replace rs1 := rs1.below hbn)
  (try first | replace rs2 := rs2.of_eq (hbn.block _ rs2.lt) | replace rs2 := rs2.below hbn)
  (try first | replace rs3 := rs3.of_eq (hbn.block _ rs3.lt) | replace rs3 := rs3.below hbn)
  refine ⟨_, rfl, ?_⟩
  simp only [Act.put, putS]
  (refine wpList_allocBk (t := 30) rfl _ (run_alloc_R _ _ rfl) ?_; intro b_r8 wn hle hge ht hbn hzn; have hsz := B.size; replace B := B.trans (hbn.mono (by omega)); have hln := Nat.lt_of_lt_of_eq (Nat.lt_succ_self _) hzn.symm; clear hzn; (try first | (have hlt := q2.lt; replace q2 := q2.of_eq (hbn.block _ (by omega))) | replace q2 := q2.below (hbn.mono hle)); (try first | (have hlt := r6.lt; replace r6 := r6.of_eq (hbn.block _ (by omega))) | replace r6 := r6.below (hbn.mono hle)); (try first | (have hlt := r7.lt; replace r7 := r7.of_eq (hbn.block _ (by omega))) | replace r7 := r7.below (hbn.mono hle)); (try first | (have hlt := gs.lt; replace gs := gs.of_eq (hbn.block _ (by omega))) | replace gs := gs.below (hbn.mono hle)); (try first | (have hlt := kt.lt; replace kt := kt.of_eq (hbn.block _ (by omega))) | replace kt := kt.below (hbn.mono hle)); (try first | (have hlt := rs1.lt; replace rs1 := rs1.of_eq (hbn.block _ (by omega))) | replace rs1 := rs1.below (hbn.mono hle)); (try first | (have hlt := rs2.lt; replace rs2 := rs2.of_eq (hbn.block _ (by omega))) | replace rs2 := rs2.below (hbn.mono hle)); (try first | (have hlt := rs3.lt; replace rs3 := rs3.of_eq (hbn.block _ (by omega))) | replace rs3 := rs3.below (hbn.mono hle)); have r8 := ht; clear ht; simp only [Act.put, putS])
  (refine wpList_storeB (t := 30) rfl _ _ rfl _ rfl _ rfl r8 (by kernel_rfl) rfl (by simp [Value.oneCell']) ?_; have r8o := r8; clear r8; intro wn ht hcn hzn; (try replace rs1 := rs1.chg r8o (by simp [rcA]) hcn); (try replace rs2 := rs2.chg r8o (by simp [rcA]) hcn); (try replace rs3 := rs3.chg r8o (by simp [rcA]) hcn); have hsz := B.size; replace hzn := Nat.le_of_eq hzn.symm; replace B := Chg.below B hcn (by omega) B.size; (try replace q2 := q2.of_eq (hcn.block _ q2.lt (by omega))); (try replace r6 := r6.of_eq (hcn.block _ r6.lt (by omega))); (try replace r7 := r7.of_eq (hcn.block _ r7.lt (by omega))); (try replace gs := gs.of_eq (hcn.block _ gs.lt (by omega))); (try replace kt := kt.of_eq (hcn.block _ kt.lt (by omega))); (try replace rs1 := rs1.of_eq (hcn.block _ rs1.lt (by omega))); (try replace rs2 := rs2.of_eq (hcn.block _ rs2.lt (by omega))); (try replace rs3 := rs3.of_eq (hcn.block _ rs3.lt (by omega))); have r8 := ht; clear ht; simp only [Act.put, putS])
  refine wpList_nil ?_
  clear HL HT hLn hTn HLS hlsn q2
  obtain ⟨w5, hw5⟩ : ∃ x, x = wn := ⟨_, rfl⟩
  subst hw5
  have BB := Lib.hid B
  replace B := Below.refl w5.heap.size w5
  have RS1 := Lib.hid rs1
  have RS2 := Lib.hid rs2
  have RS3 := Lib.hid rs3
  have R6 := Lib.hid r6
  have R7 := Lib.hid r7
  have R8 := Lib.hid r8
  have GS := Lib.hid gs
  have KT := Lib.hid kt
  clear rs1 rs2 rs3 r6 r8
  go_upto_region 5 with fail
  refine wp_region_lit ?_
  try simp only [List.getElem_toArray, List.getElem_cons_zero, List.getElem_cons_succ]
  (refine wpList_bsE rfl rfl ?_; intro b_od wn hle hge ht hbn hzn; have hsz := B.size; replace B := B.trans (hbn.mono (by omega)); have hln := Nat.lt_of_lt_of_eq (Nat.lt_succ_self _) hzn.symm; clear hzn; (try first | (have hlt := q2.lt; replace q2 := q2.of_eq (hbn.block _ (by omega))) | replace q2 := q2.below (hbn.mono hle)); (try first | (have hlt := r6.lt; replace r6 := r6.of_eq (hbn.block _ (by omega))) | replace r6 := r6.below (hbn.mono hle)); (try first | (have hlt := r7.lt; replace r7 := r7.of_eq (hbn.block _ (by omega))) | replace r7 := r7.below (hbn.mono hle)); (try first | (have hlt := r8.lt; replace r8 := r8.of_eq (hbn.block _ (by omega))) | replace r8 := r8.below (hbn.mono hle)); (try first | (have hlt := rs1.lt; replace rs1 := rs1.of_eq (hbn.block _ (by omega))) | replace rs1 := rs1.below (hbn.mono hle)); (try first | (have hlt := rs2.lt; replace rs2 := rs2.of_eq (hbn.block _ (by omega))) | replace rs2 := rs2.below (hbn.mono hle)); (try first | (have hlt := rs3.lt; replace rs3 := rs3.of_eq (hbn.block _ (by omega))) | replace rs3 := rs3.below (hbn.mono hle)); (try first | (have hlt := gs.lt; replace gs := gs.of_eq (hbn.block _ (by omega))) | replace gs := gs.below (hbn.mono hle)); (try first | (have hlt := kt.lt; replace kt := kt.of_eq (hbn.block _ (by omega))) | replace kt := kt.below (hbn.mono hle)); have od := ht; clear ht; simp only [Act.put, putS])
  refine wpList_chunk 1 (by kernel_rfl) ?_
  simp only [takS, Nat.reduceAdd]
  repeat (first | go_big_quiet_skip | (go_big_quiet_want; first | (go_big_quiet_op; go_big_quiet_on)))
  refine wpQuiet_nil ?_
  refine wpList_nil ?_
  have k9 : w5.heap.size ≤ wn.heap.size := by omega
  replace od := od.ownE.mono (show w5.heap.size ≤ _ by omega)
  clear r7 gs kt
  go_upto_region 6 with fail
  refine wp_region_lit ?_
  try simp only [List.getElem_toArray, List.getElem_cons_zero, List.getElem_cons_succ]
  refine wpList_chunk 1 (by kernel_rfl) ?_
  simp only [takS, Nat.reduceAdd]
  repeat (first | go_big_quiet_skip | (go_big_quiet_want; first | (go_big_quiet_op; go_big_quiet_on)))
  refine wpQuiet_nil ?_
  refine wpList_nil ?_
  go_wp2
  go_loopw [9, 10, 11] (fun pv iv _ wr => ∃ (k : Nat) (O : List ByteArray) (ao : Option Addr) (co : Nat), k ≤ (madeL L).length ∧ iv = .int .i64 (k : Int) ∧ pv = .slice ao O.length co ∧ Below w5.heap.size w5 wr ∧ w5.heap.size ≤ wr.heap.size ∧ OwnE stE w5.heap.size (.slice ao O.length co) O wr ∧ O = partsK (madeL L) k) (fun _ iv _ _ => ((madeL L).length - intOf iv).toNat)
  case atStart => exact ⟨0, [], _, _, by omega, rfl, rfl, B, k9, od, rfl⟩
  case round =>
    clear B od k9
    obtain ⟨k, O, ao, co, hk, rfl, rfl, B, k9, od, hO⟩ := hrel
    have hO1 := partsK_len (madeL L) k
    rw [← hO] at hO1
    have HO := Lib.hid hO
    clear hO
    have r7 := R7.out.of_eq (B.block _ R7.out.lt)
    have gs := GS.out.of_eq (B.block _ GS.out.lt)
    have kt := KT.out.of_eq (B.block _ KT.out.lt)
    by_cases hkl : k < (madeL L).length
    · have q1 : decide ((k : Int) < ((madeL L).length : Int)) = true := decide_eq_true (by omega)
      have q2 : decide (k < (madeL L).length) = true := decide_eq_true hkl
      obtain ⟨g, o, rfl, rc0⟩ := RS2.out.at (by omega)
      have rc := rc0.of_eq (B.block _ rc0.lt)
      have hm : aT (madeL L) k ∈ madeL L := List.mem_iff_getElem?.2 ⟨k, aT_at hkl⟩
      have ok := madeL_tok L _ hm
      have hw := of_decide_eq_true ((goodA_iff _).1 (validL_good VA.out _ hm)).1
      clear rc0 hm
      obtain ⟨⟨x, y, t⟩, he⟩ : ∃ e, aT (madeL L) k = e := ⟨_, rfl⟩
      rw [he] at ok hw
      obtain ⟨w1, w2, w3, w4⟩ := hw
      have OK := Lib.hid ok
      clear ok
      dsimp only at w1 w2 w3 w4
      have HP := Lib.hid (partsK_snoc hkl he)
      go_upto_region 7 with fail
      refine wp_region_lit ?_
      try simp only [List.getElem_toArray, List.getElem_cons_zero, List.getElem_cons_succ]
      refine wpList_chunk 3 (by kernel_rfl) ?_
      simp only [takS, Nat.reduceAdd]
      repeat (first | go_big_quiet_skip | (go_big_quiet_want; first | (refine quiet_loadAny (t := 28) rfl _ _ _ rfl (fun w hw => run_load_sl (ov_B r7 w hw).cell0) (by rfl) ?_; simp only [Act.put, putS]; go_big_quiet_on) | (go_big_quiet_op; go_big_quiet_on)))
      refine wpQuiet_nil ?_
      refine wpList_lenS (by first | rfl | simp [Region.wanted, yielded]) rfl Tryz.underlying28 rfl ?_
      simp only [Act.put, putS]
      refine wpList_chunk 1 (by kernel_rfl) ?_
      simp only [takS, Nat.reduceAdd]
      repeat (first | go_big_quiet_skip | (go_big_quiet_want; first | (go_big_quiet_op; go_big_quiet_on)))
      refine wpQuiet_nil ?_
      refine wpList_nil ?_
      go_upto_region 9 with fail
      refine wp_region_lit ?_
      try simp only [List.getElem_toArray, List.getElem_cons_zero, List.getElem_cons_succ]
      refine wpList_chunk 6 (by kernel_rfl) ?_
      simp only [takS, Nat.reduceAdd]
      repeat (first | go_big_quiet_skip | (go_big_quiet_want; first | (refine quiet_loadAny (t := 28) rfl _ _ _ rfl (fun w hw => run_load_sl (ov_B r7 w hw).cell0) (by rfl) ?_; simp only [Act.put, putS]; go_big_quiet_on) | (refine quiet_loadAny (t := 24) rfl _ _ _ rfl (fun w hw => rc_pos (ov_rc rc w hw) hkl he) (by first | rfl | omega) ?_; simp only [Act.put, putS]; go_big_quiet_on) | (go_big_quiet_op; go_big_quiet_on)))
      refine wpQuiet_nil ?_
      (refine wpList_allocBk (t := 24) rfl _ (run_alloc_Ps _ _ rfl) ?_; intro b_p11 wn hle hge ht hbn hzn; have hsz := B.size; replace B := B.trans (hbn.mono (by omega)); have hln := Nat.lt_of_lt_of_eq (Nat.lt_succ_self _) hzn.symm; clear hzn; (try first | (have hlt := r7.lt; replace r7 := r7.of_eq (hbn.block _ (by omega))) | replace r7 := r7.below (hbn.mono hle)); (try first | (have hlt := rc.lt; replace rc := rc.of_eq (hbn.block _ (by omega))) | replace rc := rc.below (hbn.mono hle)); (try first | (have hlt := gs.lt; replace gs := gs.of_eq (hbn.block _ (by omega))) | replace gs := gs.below (hbn.mono hle)); (try first | (have hlt := kt.lt; replace kt := kt.of_eq (hbn.block _ (by omega))) | replace kt := kt.below (hbn.mono hle)); (try first | (have hlt := od.lt; replace od := od.of_eq (hbn.block _ (by omega))) | replace od := od.below (hbn.mono hle)); have p11 := ht; clear ht; simp only [Act.put, putS])
      (refine wpList_storeB (t := 24) rfl _ _ rfl _ rfl _ rfl p11 (by kernel_rfl) rfl (by simp [Value.oneCell']) ?_; have p11o := p11; clear p11; intro wn ht hcn hzn; (try replace od := od.chgN p11o (by decide) hcn); have hsz := B.size; replace hzn := Nat.le_of_eq hzn.symm; replace B := Chg.below B hcn (by omega) B.size; (try replace r7 := r7.of_eq (hcn.block _ r7.lt (by omega))); (try replace rc := rc.of_eq (hcn.block _ rc.lt (by omega))); (try replace gs := gs.of_eq (hcn.block _ gs.lt (by omega))); (try replace kt := kt.of_eq (hcn.block _ kt.lt (by omega))); have p11 := ht; clear ht; simp only [Act.put, putS])
      refine wpList_nil ?_
      replace p11 : AtB 24 _ b_p11 #[.int .i64 x, .int .i64 y] := p11
      go_upto_region 10 with fail
      try simp only [List.getElem_toArray, List.getElem_cons_zero, List.getElem_cons_succ]
      try have lx_r7 := r7.lt
      try have lx_p11 := p11.lt
      try have lx_rc := rc.lt
      try have lx_gs := gs.lt
      try have lx_kt := kt.lt
      try have lx_od := od.lt
      refine wp_region_RL 17 [(4, detS ?v1_4), (8, detS ?v1_8), (16, detS ?v1_16)] (by kernel_rfl) (by kernel_rfl) (by kernel_rfl) ?_
      rotate_left 3
      simp only [takS, Nat.reduceAdd]
      refine wpRL_chunk 4 (by kernel_rfl) ?_
      simp only [takS, Nat.reduceAdd]
      repeat (first | go_big_quiet_skip | (go_big_quiet_want; first | (refine quiet_loadAny (t := 3) rfl _ _ _ rfl (fun w hw => run_load_int ((ov_B p11 w hw).cellL 0 rfl)) (by rfl) ?_; simp only [Act.put, putS]; go_big_quiet_on) | (refine quiet_loadAny (t := 3) rfl _ _ _ rfl (fun w hw => run_load_int ((ov_B p11 w hw).cellL 1 rfl)) (by rfl) ?_; simp only [Act.put, putS]; go_big_quiet_on) | (go_big_quiet_op; go_big_quiet_on)))
      refine wpQuiet_nil ?_
      refine wpRL_callB (by rfl) (by first | rfl | simp [Region.wanted, yielded]) ?_ ?_
      · intro wn hbn hE Kx hKx
        have hsz := B.size
        have hzn := hbn.size
        replace B := B.trans (hbn.mono B.size)
        (try first | replace r7 := r7.of_eq (hbn.block _ r7.lt) | replace r7 := r7.below hbn)
        (try first | replace p11 := p11.of_eq (hbn.block _ p11.lt) | replace p11 := p11.below hbn)
        (try first | replace rc := rc.of_eq (hbn.block _ rc.lt) | replace rc := rc.below hbn)
        (try first | replace gs := gs.of_eq (hbn.block _ gs.lt) | replace gs := gs.below hbn)
        (try first | replace kt := kt.of_eq (hbn.block _ kt.lt) | replace kt := kt.below hbn)
        (try first | replace od := od.of_eq (hbn.block _ od.lt) | replace od := od.below hbn)
        refine wp_callF rfl (enters_of Tryz.func7 (by kernel_rfl) rfl) (by simp only [List.map_toArray, List.map_cons, List.map_nil, Act.eval, Array.getD_eq_getD_getElem?, List.getElem?_toArray, List.getElem?_cons_succ, List.getElem?_cons_zero, Option.getD_some]; rfl) ?_
        refine (P_Put4z (x + 65536).toNat (x + 65536) (by omega) (by omega) _).mono ?_
        rintro e wm ⟨rfl, hbm⟩
        refine ⟨_, rfl, ?_⟩
        have hz := hKx () wm trivial hbm
        dsimp only [detS] at hz
        exact hz
      rintro ⟨⟩
      dsimp only [detS]
      simp only [Act.put, putS]
      refine wpRL_chunk 3 (by kernel_rfl) ?_
      simp only [takS, Nat.reduceAdd]
      repeat (first | go_big_quiet_skip | (go_big_quiet_want; first | (refine quiet_loadAny (t := 3) rfl _ _ _ rfl (fun w hw => run_load_int ((ov_B p11 w hw).cellL 0 rfl)) (by rfl) ?_; simp only [Act.put, putS]; go_big_quiet_on) | (refine quiet_loadAny (t := 3) rfl _ _ _ rfl (fun w hw => run_load_int ((ov_B p11 w hw).cellL 1 rfl)) (by rfl) ?_; simp only [Act.put, putS]; go_big_quiet_on) | (go_big_quiet_op; go_big_quiet_on)))
      refine wpQuiet_nil ?_
      refine wpRL_callB (by rfl) (by first | rfl | simp [Region.wanted, yielded]) ?_ ?_
      · intro wn hbn hE Kx hKx
        have hsz := B.size
        have hzn := hbn.size
        replace B := B.trans (hbn.mono B.size)
        (try first | replace r7 := r7.of_eq (hbn.block _ r7.lt) | replace r7 := r7.below hbn)
        (try first | replace p11 := p11.of_eq (hbn.block _ p11.lt) | replace p11 := p11.below hbn)
        (try first | replace rc := rc.of_eq (hbn.block _ rc.lt) | replace rc := rc.below hbn)
        (try first | replace gs := gs.of_eq (hbn.block _ gs.lt) | replace gs := gs.below hbn)
        (try first | replace kt := kt.of_eq (hbn.block _ kt.lt) | replace kt := kt.below hbn)
        (try first | replace od := od.of_eq (hbn.block _ od.lt) | replace od := od.below hbn)
        refine wp_callF rfl (enters_of Tryz.func7 (by kernel_rfl) rfl) (by simp only [List.map_toArray, List.map_cons, List.map_nil, Act.eval, Array.getD_eq_getD_getElem?, List.getElem?_toArray, List.getElem?_cons_succ, List.getElem?_cons_zero, Option.getD_some]; rfl) ?_
        refine (P_Put4z (y + 65536).toNat (y + 65536) (by omega) (by omega) _).mono ?_
        rintro e wm ⟨rfl, hbm⟩
        refine ⟨_, rfl, ?_⟩
        have hz := hKx () wm trivial hbm
        dsimp only [detS] at hz
        exact hz
      rintro ⟨⟩
      dsimp only [detS]
      simp only [Act.put, putS]
      refine wpRL_chunk 7 (by kernel_rfl) ?_
      simp only [takS, Nat.reduceAdd]
      repeat (first | go_big_quiet_skip | (go_big_quiet_want; first | (refine quiet_loadAny (t := 28) rfl _ _ _ rfl (fun w hw => run_load_sl (ov_B r7 w hw).cell0) (by rfl) ?_; simp only [Act.put, putS]; go_big_quiet_on) | (refine quiet_loadAny (t := 37) rfl _ _ _ rfl (fun w hw => rc_tile (ov_rc rc w hw) hkl he) (by first | rfl | omega) ?_; simp only [Act.put, putS]; go_big_quiet_on) | (go_big_quiet_op; go_big_quiet_on)))
      refine wpQuiet_nil ?_
      refine wpRL_callB (by rfl) (by first | rfl | simp [Region.wanted, yielded]) ?_ ?_
      · intro wn hbn hE Kx hKx
        have hsz := B.size
        have hzn := hbn.size
        replace B := B.trans (hbn.mono B.size)
        (try first | replace r7 := r7.of_eq (hbn.block _ r7.lt) | replace r7 := r7.below hbn)
        (try first | replace p11 := p11.of_eq (hbn.block _ p11.lt) | replace p11 := p11.below hbn)
        (try first | replace rc := rc.of_eq (hbn.block _ rc.lt) | replace rc := rc.below hbn)
        (try first | replace gs := gs.of_eq (hbn.block _ gs.lt) | replace gs := gs.below hbn)
        (try first | replace kt := kt.of_eq (hbn.block _ kt.lt) | replace kt := kt.below hbn)
        (try first | replace od := od.of_eq (hbn.block _ od.lt) | replace od := od.below hbn)
        refine wp_callF rfl (enters_of Tryz.func8 (by kernel_rfl) rfl) (by simp only [List.map_toArray, List.map_cons, List.map_nil, Act.eval, Array.getD_eq_getD_getElem?, List.getElem?_toArray, List.getElem?_cons_succ, List.getElem?_cons_zero, Option.getD_some]; rfl) ?_
        refine (P_Key t _ OK.out gs kt).mono ?_
        rintro e wm ⟨rfl, hbm⟩
        refine ⟨_, rfl, ?_⟩
        have hz := hKx () wm trivial hbm
        dsimp only [detS] at hz
        exact hz
      rintro ⟨⟩
      dsimp only [detS]
      simp only [Act.put, putS]
      refine wpRL_nil ?_
      intro wn hbn hE
      have hsz := B.size
      have hzn := hbn.size
      replace B := B.trans (hbn.mono B.size)
      (try first | replace r7 := r7.of_eq (hbn.block _ r7.lt) | replace r7 := r7.below hbn)
      (try first | replace p11 := p11.of_eq (hbn.block _ p11.lt) | replace p11 := p11.below hbn)
      (try first | replace rc := rc.of_eq (hbn.block _ rc.lt) | replace rc := rc.below hbn)
      (try first | replace gs := gs.of_eq (hbn.block _ gs.lt) | replace gs := gs.below hbn)
      (try first | replace kt := kt.of_eq (hbn.block _ kt.lt) | replace kt := kt.below hbn)
      (try first | replace od := od.of_eq (hbn.block _ od.lt) | replace od := od.below hbn)
      clear hE
      try simp only [List.drop_succ_cons, List.drop_zero]
      go_wp2_with (first | (at_builtin; refine wpList_appendE rfl _ _ rfl _ _ rfl rfl od ((ls_rse s2 rfl (Nat.le_refl 2))) (by simp only [List.length_append, List.length_cons, List.length_nil]; omega) (by omega) ?_; intro v_od wn ht hbn; have hsz := B.size; have hbz := hbn.size; replace B := B.trans (hbn.mono (by omega)); clear od; have od := ht; clear ht; obtain ⟨a_od, c_od, hv, hco⟩ := od.len; (try simp only [List.length_append, List.length_cons, List.length_nil, Nat.zero_add] at hv hco); subst hv; simp only [Act.put, putS]) | (refine wpList_bsS2 rfl _ _ rfl _ _ rfl rfl ?_; intro b_s2 wn hle hge ht hbn hzn; replace od := od.below (hbn.mono hle); have hsz := B.size; replace B := B.trans (hbn.mono (by omega)); have hln := Nat.lt_of_lt_of_eq (Nat.lt_succ_self _) hzn.symm; clear hzn; have s2 := ht; clear ht; simp only [Act.put, putS]) | fail)
      refine NoPan.normal ?_
      go_wp2
      go_roundw
      case rel => exact ⟨k + 1, O ++ keyP ⟨x, y, t⟩, _, _, by omega, by go_num, by rw [List.length_append]; rfl, B, by omega, by rw [List.length_append]; exact od, by rw [HP.out, HO.out]⟩
      case measure => simp [intOf]; omega
    · obtain rfl : k = (madeL L).length := by omega
      have q1 : decide ((((madeL L).length : Nat) : Int) < ((madeL L).length : Int)) = false := decide_eq_false (by omega)
      have q2 : decide ((madeL L).length < (madeL L).length) = false := decide_eq_false (by omega)
      have hM := Lib.hid (show ∀ i, (sAt O i).size ≤ 100000 from by rw [HO.out]; exact partsK_size _ _)
      have HJ := Lib.hid (show JL O = K2 from by rw [HO.out]; exact HK2.out)
      go_upto_region 7 with fail
      refine wp_region_lit ?_
      try simp only [List.getElem_toArray, List.getElem_cons_zero, List.getElem_cons_succ]
      refine wpList_chunk 3 (by kernel_rfl) ?_
      simp only [takS, Nat.reduceAdd]
      repeat (first | go_big_quiet_skip | (go_big_quiet_want; first | (refine quiet_loadAny (t := 28) rfl _ _ _ rfl (fun w hw => run_load_sl (ov_B r7 w hw).cell0) (by rfl) ?_; simp only [Act.put, putS]; go_big_quiet_on) | (go_big_quiet_op; go_big_quiet_on)))
      refine wpQuiet_nil ?_
      refine wpList_lenS (by first | rfl | simp [Region.wanted, yielded]) rfl Tryz.underlying28 rfl ?_
      simp only [Act.put, putS]
      refine wpList_chunk 1 (by kernel_rfl) ?_
      simp only [takS, Nat.reduceAdd]
      repeat (first | go_big_quiet_skip | (go_big_quiet_want; first | (go_big_quiet_op; go_big_quiet_on)))
      refine wpQuiet_nil ?_
      refine wpList_nil ?_
      have s1 := od.ownS.ls
      have r6 := R6.out.of_eq (B.block _ R6.out.lt)
      have r8 := R8.out.of_eq (B.block _ R8.out.lt)
      have rs1 := RS1.out.below B
      have rs2 := RS2.out.below B
      have rs3 := RS3.out.below B
      clear od HO
      cases hb : eqL (madeL L) (madeL Ls) with
      | true =>
        have HB := Lib.hid (show eqL (fineL (madeL L)) (fineL (madeL Ls)) = true from by rw [F2.out, F3.out]; exact hb)
        have HK3 := Lib.hid (show keyR (fineL (madeL Ls)) = K2 from by rw [F3.out, ← keyR_congr hb]; exact HK2.out)
        clear hb
        go_upto_region 11 with fail
        try simp only [List.getElem_toArray, List.getElem_cons_zero, List.getElem_cons_succ]
        try have lx_r6 := r6.lt
        try have lx_r7 := r7.lt
        try have lx_r8 := r8.lt
        try have lx_rs1 := rs1.lt
        try have lx_rs2 := rs2.lt
        try have lx_rs3 := rs3.lt
        try have lx_gs := gs.lt
        try have lx_kt := kt.lt
        try have lx_s1 := s1.lt
        refine wp_region_RL 34 [(3, detS ?v2_3), (5, detS ?v2_5), (10, detS ?v2_10), (12, detS ?v2_12), (18, detS ?v2_18), (22, detS ?v2_22), (24, detS ?v2_24), (30, detS ?v2_30), (31, detS ?v2_31)] (by kernel_rfl) (by kernel_rfl) (by kernel_rfl) ?_
        rotate_left 9
        simp only [takS, Nat.reduceAdd]
        refine wpRL_chunk 3 (by kernel_rfl) ?_
        simp only [takS, Nat.reduceAdd]
        repeat (first | go_big_quiet_skip | (go_big_quiet_want; first | (refine quiet_loadAny (t := 30) rfl _ _ _ rfl (fun w hw => run_load_B (ov_B r6 w hw) Tryz.isAgg30 (by kernel_rfl)) (by rfl) ?_; simp only [Act.put, putS]; go_big_quiet_on) | (refine quiet_loadAny (t := 30) rfl _ _ _ rfl (fun w hw => run_load_B (ov_B r7 w hw) Tryz.isAgg30 (by kernel_rfl)) (by rfl) ?_; simp only [Act.put, putS]; go_big_quiet_on) | (refine quiet_loadAny (t := 30) rfl _ _ _ rfl (fun w hw => run_load_B (ov_B r8 w hw) Tryz.isAgg30 (by kernel_rfl)) (by rfl) ?_; simp only [Act.put, putS]; go_big_quiet_on) | (go_big_quiet_op; go_big_quiet_on)))
        refine wpQuiet_nil ?_
        refine wpRL_callB (by rfl) ?hw2_3 ?_ ?_
        case hw2_3 => kernel_rfl
        · intro wn hbn hE Kx hKx
          have hsz := B.size
          have hzn := hbn.size
          replace B := B.trans (hbn.mono B.size)
          (try first | replace r6 := r6.of_eq (hbn.block _ r6.lt) | replace r6 := r6.below hbn)
          (try first | replace r7 := r7.of_eq (hbn.block _ r7.lt) | replace r7 := r7.below hbn)
          (try first | replace r8 := r8.of_eq (hbn.block _ r8.lt) | replace r8 := r8.below hbn)
          (try first | replace rs1 := rs1.of_eq (hbn.block _ rs1.lt) | replace rs1 := rs1.below hbn)
          (try first | replace rs2 := rs2.of_eq (hbn.block _ rs2.lt) | replace rs2 := rs2.below hbn)
          (try first | replace rs3 := rs3.of_eq (hbn.block _ rs3.lt) | replace rs3 := rs3.below hbn)
          (try first | replace gs := gs.of_eq (hbn.block _ gs.lt) | replace gs := gs.below hbn)
          (try first | replace kt := kt.of_eq (hbn.block _ kt.lt) | replace kt := kt.below hbn)
          (try first | replace s1 := s1.of_eq (hbn.block _ s1.lt) | replace s1 := s1.below hbn)
          refine wp_callF rfl (enters_of Tryz.func9 (by kernel_rfl) rfl) (by simp only [List.map_toArray, List.map_cons, List.map_nil, Act.eval, Array.getD_eq_getD_getElem?, List.getElem?_toArray, List.getElem?_cons_succ, List.getElem?_cons_zero, Option.getD_some]; rfl) ?_
          refine (P_KeyO _ (ofRL q L T) K1 _ rs1 (ofL_tok q L T) n1.out m1.out gs kt HK1.out).mono ?_
          rintro e wm ⟨rfl, hbm⟩
          refine ⟨_, rfl, ?_⟩
          have hz := hKx () wm trivial hbm
          dsimp only [detS] at hz
          exact hz
        rintro ⟨⟩
        dsimp only [detS]
        simp only [Act.put, putS]
        refine wpRL_chunk 1 (by kernel_rfl) ?_
        simp only [takS, Nat.reduceAdd]
        repeat (first | go_big_quiet_skip | (go_big_quiet_want; first | (refine quiet_loadAny (t := 30) rfl _ _ _ rfl (fun w hw => run_load_B (ov_B r6 w hw) Tryz.isAgg30 (by kernel_rfl)) (by rfl) ?_; simp only [Act.put, putS]; go_big_quiet_on) | (refine quiet_loadAny (t := 30) rfl _ _ _ rfl (fun w hw => run_load_B (ov_B r7 w hw) Tryz.isAgg30 (by kernel_rfl)) (by rfl) ?_; simp only [Act.put, putS]; go_big_quiet_on) | (refine quiet_loadAny (t := 30) rfl _ _ _ rfl (fun w hw => run_load_B (ov_B r8 w hw) Tryz.isAgg30 (by kernel_rfl)) (by rfl) ?_; simp only [Act.put, putS]; go_big_quiet_on) | (go_big_quiet_op; go_big_quiet_on)))
        refine wpQuiet_nil ?_
        refine wpRL_callB (by rfl) ?hw2_5 ?_ ?_
        case hw2_5 => kernel_rfl
        · intro wn hbn hE Kx hKx
          have hsz := B.size
          have hzn := hbn.size
          replace B := B.trans (hbn.mono B.size)
          (try first | replace r6 := r6.of_eq (hbn.block _ r6.lt) | replace r6 := r6.below hbn)
          (try first | replace r7 := r7.of_eq (hbn.block _ r7.lt) | replace r7 := r7.below hbn)
          (try first | replace r8 := r8.of_eq (hbn.block _ r8.lt) | replace r8 := r8.below hbn)
          (try first | replace rs1 := rs1.of_eq (hbn.block _ rs1.lt) | replace rs1 := rs1.below hbn)
          (try first | replace rs2 := rs2.of_eq (hbn.block _ rs2.lt) | replace rs2 := rs2.below hbn)
          (try first | replace rs3 := rs3.of_eq (hbn.block _ rs3.lt) | replace rs3 := rs3.below hbn)
          (try first | replace gs := gs.of_eq (hbn.block _ gs.lt) | replace gs := gs.below hbn)
          (try first | replace kt := kt.of_eq (hbn.block _ kt.lt) | replace kt := kt.below hbn)
          (try first | replace s1 := s1.of_eq (hbn.block _ s1.lt) | replace s1 := s1.below hbn)
          refine wp_callF rfl (enters_of Tryz.func10 (by kernel_rfl) rfl) (by simp only [List.map_toArray, List.map_cons, List.map_nil, Act.eval, Array.getD_eq_getD_getElem?, List.getElem?_toArray, List.getElem?_cons_succ, List.getElem?_cons_zero, Option.getD_some]; rfl) ?_
          refine (R_KeyO _ (ofRL q L T) K1 _ rs1 (ofL_tok q L T) n1.out m1.out HK1.out).mono ?_
          rintro e wm ⟨rfl, hbm⟩
          refine ⟨_, rfl, ?_⟩
          have hz := hKx () wm trivial hbm
          dsimp only [detS] at hz
          exact hz
        rintro ⟨⟩
        dsimp only [detS]
        simp only [Act.put, putS]
        refine wpRL_chunk 4 (by kernel_rfl) ?_
        simp only [takS, Nat.reduceAdd]
        repeat (first | go_big_quiet_skip | (go_big_quiet_want; first | (refine quiet_loadAny (t := 30) rfl _ _ _ rfl (fun w hw => run_load_B (ov_B r6 w hw) Tryz.isAgg30 (by kernel_rfl)) (by rfl) ?_; simp only [Act.put, putS]; go_big_quiet_on) | (refine quiet_loadAny (t := 30) rfl _ _ _ rfl (fun w hw => run_load_B (ov_B r7 w hw) Tryz.isAgg30 (by kernel_rfl)) (by rfl) ?_; simp only [Act.put, putS]; go_big_quiet_on) | (refine quiet_loadAny (t := 30) rfl _ _ _ rfl (fun w hw => run_load_B (ov_B r8 w hw) Tryz.isAgg30 (by kernel_rfl)) (by rfl) ?_; simp only [Act.put, putS]; go_big_quiet_on) | (go_big_quiet_op; go_big_quiet_on)))
        refine wpQuiet_nil ?_
        refine wpRL_callB (by rfl) ?hw2_10 ?_ ?_
        case hw2_10 => kernel_rfl
        · intro wn hbn hE Kx hKx
          have hsz := B.size
          have hzn := hbn.size
          replace B := B.trans (hbn.mono B.size)
          (try first | replace r6 := r6.of_eq (hbn.block _ r6.lt) | replace r6 := r6.below hbn)
          (try first | replace r7 := r7.of_eq (hbn.block _ r7.lt) | replace r7 := r7.below hbn)
          (try first | replace r8 := r8.of_eq (hbn.block _ r8.lt) | replace r8 := r8.below hbn)
          (try first | replace rs1 := rs1.of_eq (hbn.block _ rs1.lt) | replace rs1 := rs1.below hbn)
          (try first | replace rs2 := rs2.of_eq (hbn.block _ rs2.lt) | replace rs2 := rs2.below hbn)
          (try first | replace rs3 := rs3.of_eq (hbn.block _ rs3.lt) | replace rs3 := rs3.below hbn)
          (try first | replace gs := gs.of_eq (hbn.block _ gs.lt) | replace gs := gs.below hbn)
          (try first | replace kt := kt.of_eq (hbn.block _ kt.lt) | replace kt := kt.below hbn)
          (try first | replace s1 := s1.of_eq (hbn.block _ s1.lt) | replace s1 := s1.below hbn)
          refine wp_callF rfl (enters_of Tryz.func9 (by kernel_rfl) rfl) (by simp only [List.map_toArray, List.map_cons, List.map_nil, Act.eval, Array.getD_eq_getD_getElem?, List.getElem?_toArray, List.getElem?_cons_succ, List.getElem?_cons_zero, Option.getD_some]; rfl) ?_
          refine (P_KeyO _ (madeL L) K2 _ rs2 (madeL_tok L) n2.out m2.out gs kt HK2f.out).mono ?_
          rintro e wm ⟨rfl, hbm⟩
          refine ⟨_, rfl, ?_⟩
          have hz := hKx () wm trivial hbm
          dsimp only [detS] at hz
          exact hz
        rintro ⟨⟩
        dsimp only [detS]
        simp only [Act.put, putS]
        refine wpRL_chunk 1 (by kernel_rfl) ?_
        simp only [takS, Nat.reduceAdd]
        repeat (first | go_big_quiet_skip | (go_big_quiet_want; first | (go_big_quiet_op; go_big_quiet_on)))
        refine wpQuiet_nil ?_
        refine wpRL_callB (by rfl) ?hw2_12 ?_ ?_
        case hw2_12 => kernel_rfl
        · intro wn hbn hE Kx hKx
          have hsz := B.size
          have hzn := hbn.size
          replace B := B.trans (hbn.mono B.size)
          (try first | replace r6 := r6.of_eq (hbn.block _ r6.lt) | replace r6 := r6.below hbn)
          (try first | replace r7 := r7.of_eq (hbn.block _ r7.lt) | replace r7 := r7.below hbn)
          (try first | replace r8 := r8.of_eq (hbn.block _ r8.lt) | replace r8 := r8.below hbn)
          (try first | replace rs1 := rs1.of_eq (hbn.block _ rs1.lt) | replace rs1 := rs1.below hbn)
          (try first | replace rs2 := rs2.of_eq (hbn.block _ rs2.lt) | replace rs2 := rs2.below hbn)
          (try first | replace rs3 := rs3.of_eq (hbn.block _ rs3.lt) | replace rs3 := rs3.below hbn)
          (try first | replace gs := gs.of_eq (hbn.block _ gs.lt) | replace gs := gs.below hbn)
          (try first | replace kt := kt.of_eq (hbn.block _ kt.lt) | replace kt := kt.below hbn)
          (try first | replace s1 := s1.of_eq (hbn.block _ s1.lt) | replace s1 := s1.below hbn)
          refine wp_callF rfl (enters_of Tryz.func11 (by kernel_rfl) rfl) (by simp only [List.map_toArray, List.map_cons, List.map_nil, Act.eval, Array.getD_eq_getD_getElem?, List.getElem?_toArray, List.getElem?_cons_succ, List.getElem?_cons_zero, Option.getD_some]; rfl) ?_
          refine (P_JoinO s1 (by omega) hM.out gs kt K2 HJ.out).mono ?_
          rintro e wm ⟨rfl, hbm⟩
          refine ⟨_, rfl, ?_⟩
          have hz := hKx () wm trivial hbm
          dsimp only [detS] at hz
          exact hz
        rintro ⟨⟩
        dsimp only [detS]
        simp only [Act.put, putS]
        refine wpRL_chunk 5 (by kernel_rfl) ?_
        simp only [takS, Nat.reduceAdd]
        repeat (first | go_big_quiet_skip | (go_big_quiet_want; first | (refine quiet_loadAny (t := 30) rfl _ _ _ rfl (fun w hw => run_load_B (ov_B r6 w hw) Tryz.isAgg30 (by kernel_rfl)) (by rfl) ?_; simp only [Act.put, putS]; go_big_quiet_on) | (refine quiet_loadAny (t := 30) rfl _ _ _ rfl (fun w hw => run_load_B (ov_B r7 w hw) Tryz.isAgg30 (by kernel_rfl)) (by rfl) ?_; simp only [Act.put, putS]; go_big_quiet_on) | (refine quiet_loadAny (t := 30) rfl _ _ _ rfl (fun w hw => run_load_B (ov_B r8 w hw) Tryz.isAgg30 (by kernel_rfl)) (by rfl) ?_; simp only [Act.put, putS]; go_big_quiet_on) | (go_big_quiet_op; go_big_quiet_on)))
        refine wpQuiet_nil ?_
        refine wpRL_callB (by rfl) ?hw2_18 ?_ ?_
        case hw2_18 => kernel_rfl
        · intro wn hbn hE Kx hKx
          have hsz := B.size
          have hzn := hbn.size
          replace B := B.trans (hbn.mono B.size)
          (try first | replace r6 := r6.of_eq (hbn.block _ r6.lt) | replace r6 := r6.below hbn)
          (try first | replace r7 := r7.of_eq (hbn.block _ r7.lt) | replace r7 := r7.below hbn)
          (try first | replace r8 := r8.of_eq (hbn.block _ r8.lt) | replace r8 := r8.below hbn)
          (try first | replace rs1 := rs1.of_eq (hbn.block _ rs1.lt) | replace rs1 := rs1.below hbn)
          (try first | replace rs2 := rs2.of_eq (hbn.block _ rs2.lt) | replace rs2 := rs2.below hbn)
          (try first | replace rs3 := rs3.of_eq (hbn.block _ rs3.lt) | replace rs3 := rs3.below hbn)
          (try first | replace gs := gs.of_eq (hbn.block _ gs.lt) | replace gs := gs.below hbn)
          (try first | replace kt := kt.of_eq (hbn.block _ kt.lt) | replace kt := kt.below hbn)
          (try first | replace s1 := s1.of_eq (hbn.block _ s1.lt) | replace s1 := s1.below hbn)
          refine wp_callF rfl (enters_of Tryz.func12 (by kernel_rfl) rfl) (by simp only [List.map_toArray, List.map_cons, List.map_nil, Act.eval, Array.getD_eq_getD_getElem?, List.getElem?_toArray, List.getElem?_cons_succ, List.getElem?_cons_zero, Option.getD_some]; rfl) ?_
          refine (P_EqualO _ _ (madeL L) (madeL Ls) true _ rs2 rs3 (madeL_tok L) (madeL_tok Ls) n2.out n3.out HB.out).mono ?_
          rintro e wm ⟨rfl, hbm⟩
          refine ⟨_, rfl, ?_⟩
          have hz := hKx () wm trivial hbm
          dsimp only [detS] at hz
          exact hz
        rintro ⟨⟩
        dsimp only [detS]
        simp only [Act.put, putS]
        refine wpRL_chunk 3 (by kernel_rfl) ?_
        simp only [takS, Nat.reduceAdd]
        repeat (first | go_big_quiet_skip | (go_big_quiet_want; first | (refine quiet_loadAny (t := 30) rfl _ _ _ rfl (fun w hw => run_load_B (ov_B r6 w hw) Tryz.isAgg30 (by kernel_rfl)) (by rfl) ?_; simp only [Act.put, putS]; go_big_quiet_on) | (refine quiet_loadAny (t := 30) rfl _ _ _ rfl (fun w hw => run_load_B (ov_B r7 w hw) Tryz.isAgg30 (by kernel_rfl)) (by rfl) ?_; simp only [Act.put, putS]; go_big_quiet_on) | (refine quiet_loadAny (t := 30) rfl _ _ _ rfl (fun w hw => run_load_B (ov_B r8 w hw) Tryz.isAgg30 (by kernel_rfl)) (by rfl) ?_; simp only [Act.put, putS]; go_big_quiet_on) | (go_big_quiet_op; go_big_quiet_on)))
        refine wpQuiet_nil ?_
        refine wpRL_callB (by rfl) ?hw2_22 ?_ ?_
        case hw2_22 => kernel_rfl
        · intro wn hbn hE Kx hKx
          have hsz := B.size
          have hzn := hbn.size
          replace B := B.trans (hbn.mono B.size)
          (try first | replace r6 := r6.of_eq (hbn.block _ r6.lt) | replace r6 := r6.below hbn)
          (try first | replace r7 := r7.of_eq (hbn.block _ r7.lt) | replace r7 := r7.below hbn)
          (try first | replace r8 := r8.of_eq (hbn.block _ r8.lt) | replace r8 := r8.below hbn)
          (try first | replace rs1 := rs1.of_eq (hbn.block _ rs1.lt) | replace rs1 := rs1.below hbn)
          (try first | replace rs2 := rs2.of_eq (hbn.block _ rs2.lt) | replace rs2 := rs2.below hbn)
          (try first | replace rs3 := rs3.of_eq (hbn.block _ rs3.lt) | replace rs3 := rs3.below hbn)
          (try first | replace gs := gs.of_eq (hbn.block _ gs.lt) | replace gs := gs.below hbn)
          (try first | replace kt := kt.of_eq (hbn.block _ kt.lt) | replace kt := kt.below hbn)
          (try first | replace s1 := s1.of_eq (hbn.block _ s1.lt) | replace s1 := s1.below hbn)
          refine wp_callF rfl (enters_of Tryz.func9 (by kernel_rfl) rfl) (by simp only [List.map_toArray, List.map_cons, List.map_nil, Act.eval, Array.getD_eq_getD_getElem?, List.getElem?_toArray, List.getElem?_cons_succ, List.getElem?_cons_zero, Option.getD_some]; rfl) ?_
          refine (P_KeyO _ (madeL L) K2 _ rs2 (madeL_tok L) n2.out m2.out gs kt HK2f.out).mono ?_
          rintro e wm ⟨rfl, hbm⟩
          refine ⟨_, rfl, ?_⟩
          have hz := hKx () wm trivial hbm
          dsimp only [detS] at hz
          exact hz
        rintro ⟨⟩
        dsimp only [detS]
        simp only [Act.put, putS]
        refine wpRL_chunk 1 (by kernel_rfl) ?_
        simp only [takS, Nat.reduceAdd]
        repeat (first | go_big_quiet_skip | (go_big_quiet_want; first | (refine quiet_loadAny (t := 30) rfl _ _ _ rfl (fun w hw => run_load_B (ov_B r6 w hw) Tryz.isAgg30 (by kernel_rfl)) (by rfl) ?_; simp only [Act.put, putS]; go_big_quiet_on) | (refine quiet_loadAny (t := 30) rfl _ _ _ rfl (fun w hw => run_load_B (ov_B r7 w hw) Tryz.isAgg30 (by kernel_rfl)) (by rfl) ?_; simp only [Act.put, putS]; go_big_quiet_on) | (refine quiet_loadAny (t := 30) rfl _ _ _ rfl (fun w hw => run_load_B (ov_B r8 w hw) Tryz.isAgg30 (by kernel_rfl)) (by rfl) ?_; simp only [Act.put, putS]; go_big_quiet_on) | (go_big_quiet_op; go_big_quiet_on)))
        refine wpQuiet_nil ?_
        refine wpRL_callB (by rfl) ?hw2_24 ?_ ?_
        case hw2_24 => kernel_rfl
        · intro wn hbn hE Kx hKx
          have hsz := B.size
          have hzn := hbn.size
          replace B := B.trans (hbn.mono B.size)
          (try first | replace r6 := r6.of_eq (hbn.block _ r6.lt) | replace r6 := r6.below hbn)
          (try first | replace r7 := r7.of_eq (hbn.block _ r7.lt) | replace r7 := r7.below hbn)
          (try first | replace r8 := r8.of_eq (hbn.block _ r8.lt) | replace r8 := r8.below hbn)
          (try first | replace rs1 := rs1.of_eq (hbn.block _ rs1.lt) | replace rs1 := rs1.below hbn)
          (try first | replace rs2 := rs2.of_eq (hbn.block _ rs2.lt) | replace rs2 := rs2.below hbn)
          (try first | replace rs3 := rs3.of_eq (hbn.block _ rs3.lt) | replace rs3 := rs3.below hbn)
          (try first | replace gs := gs.of_eq (hbn.block _ gs.lt) | replace gs := gs.below hbn)
          (try first | replace kt := kt.of_eq (hbn.block _ kt.lt) | replace kt := kt.below hbn)
          (try first | replace s1 := s1.of_eq (hbn.block _ s1.lt) | replace s1 := s1.below hbn)
          refine wp_callF rfl (enters_of Tryz.func9 (by kernel_rfl) rfl) (by simp only [List.map_toArray, List.map_cons, List.map_nil, Act.eval, Array.getD_eq_getD_getElem?, List.getElem?_toArray, List.getElem?_cons_succ, List.getElem?_cons_zero, Option.getD_some]; rfl) ?_
          refine (P_KeyO _ (madeL Ls) K2 _ rs3 (madeL_tok Ls) n3.out m3.out gs kt HK3.out).mono ?_
          rintro e wm ⟨rfl, hbm⟩
          refine ⟨_, rfl, ?_⟩
          have hz := hKx () wm trivial hbm
          dsimp only [detS] at hz
          exact hz
        rintro ⟨⟩
        dsimp only [detS]
        simp only [Act.put, putS]
        refine wpRL_chunk 5 (by kernel_rfl) ?_
        simp only [takS, Nat.reduceAdd]
        repeat (first | go_big_quiet_skip | (go_big_quiet_want; first | (refine quiet_loadAny (t := 30) rfl _ _ _ rfl (fun w hw => run_load_B (ov_B r6 w hw) Tryz.isAgg30 (by kernel_rfl)) (by rfl) ?_; simp only [Act.put, putS]; go_big_quiet_on) | (refine quiet_loadAny (t := 30) rfl _ _ _ rfl (fun w hw => run_load_B (ov_B r7 w hw) Tryz.isAgg30 (by kernel_rfl)) (by rfl) ?_; simp only [Act.put, putS]; go_big_quiet_on) | (refine quiet_loadAny (t := 30) rfl _ _ _ rfl (fun w hw => run_load_B (ov_B r8 w hw) Tryz.isAgg30 (by kernel_rfl)) (by rfl) ?_; simp only [Act.put, putS]; go_big_quiet_on) | (go_big_quiet_op; go_big_quiet_on)))
        refine wpQuiet_nil ?_
        refine wpRL_callB (by rfl) ?hw2_30 ?_ ?_
        case hw2_30 => kernel_rfl
        · intro wn hbn hE Kx hKx
          have hsz := B.size
          have hzn := hbn.size
          replace B := B.trans (hbn.mono B.size)
          (try first | replace r6 := r6.of_eq (hbn.block _ r6.lt) | replace r6 := r6.below hbn)
          (try first | replace r7 := r7.of_eq (hbn.block _ r7.lt) | replace r7 := r7.below hbn)
          (try first | replace r8 := r8.of_eq (hbn.block _ r8.lt) | replace r8 := r8.below hbn)
          (try first | replace rs1 := rs1.of_eq (hbn.block _ rs1.lt) | replace rs1 := rs1.below hbn)
          (try first | replace rs2 := rs2.of_eq (hbn.block _ rs2.lt) | replace rs2 := rs2.below hbn)
          (try first | replace rs3 := rs3.of_eq (hbn.block _ rs3.lt) | replace rs3 := rs3.below hbn)
          (try first | replace gs := gs.of_eq (hbn.block _ gs.lt) | replace gs := gs.below hbn)
          (try first | replace kt := kt.of_eq (hbn.block _ kt.lt) | replace kt := kt.below hbn)
          (try first | replace s1 := s1.of_eq (hbn.block _ s1.lt) | replace s1 := s1.below hbn)
          refine wp_callF rfl (enters_of Tryz.func9 (by kernel_rfl) rfl) (by simp only [List.map_toArray, List.map_cons, List.map_nil, Act.eval, Array.getD_eq_getD_getElem?, List.getElem?_toArray, List.getElem?_cons_succ, List.getElem?_cons_zero, Option.getD_some]; rfl) ?_
          refine (P_KeyO _ (ofRL q L T) K1 _ rs1 (ofL_tok q L T) n1.out m1.out gs kt HK1.out).mono ?_
          rintro e wm ⟨rfl, hbm⟩
          refine ⟨_, rfl, ?_⟩
          have hz := hKx () wm trivial hbm
          dsimp only [detS] at hz
          exact hz
        rintro ⟨⟩
        dsimp only [detS]
        simp only [Act.put, putS]
        refine wpRL_callB (by rfl) ?hw2_31 ?_ ?_
        case hw2_31 => kernel_rfl
        · intro wn hbn hE Kx hKx
          have hsz := B.size
          have hzn := hbn.size
          replace B := B.trans (hbn.mono B.size)
          (try first | replace r6 := r6.of_eq (hbn.block _ r6.lt) | replace r6 := r6.below hbn)
          (try first | replace r7 := r7.of_eq (hbn.block _ r7.lt) | replace r7 := r7.below hbn)
          (try first | replace r8 := r8.of_eq (hbn.block _ r8.lt) | replace r8 := r8.below hbn)
          (try first | replace rs1 := rs1.of_eq (hbn.block _ rs1.lt) | replace rs1 := rs1.below hbn)
          (try first | replace rs2 := rs2.of_eq (hbn.block _ rs2.lt) | replace rs2 := rs2.below hbn)
          (try first | replace rs3 := rs3.of_eq (hbn.block _ rs3.lt) | replace rs3 := rs3.below hbn)
          (try first | replace gs := gs.of_eq (hbn.block _ gs.lt) | replace gs := gs.below hbn)
          (try first | replace kt := kt.of_eq (hbn.block _ kt.lt) | replace kt := kt.below hbn)
          (try first | replace s1 := s1.of_eq (hbn.block _ s1.lt) | replace s1 := s1.below hbn)
          refine wp_callF rfl (enters_of Tryz.func13 (by kernel_rfl) rfl) (by simp only [List.map_toArray, List.map_cons, List.map_nil, Act.eval, Array.getD_eq_getD_getElem?, List.getElem?_toArray, List.getElem?_cons_succ, List.getElem?_cons_zero, Option.getD_some]; rfl) ?_
          refine (S_ValidT K1 _ z1.out).mono ?_
          rintro e wm ⟨rfl, hbm⟩
          refine ⟨_, rfl, ?_⟩
          have hz := hKx () wm trivial hbm
          dsimp only [detS] at hz
          exact hz
        rintro ⟨⟩
        dsimp only [detS]
        simp only [Act.put, putS]
        refine wpRL_chunk 2 (by kernel_rfl) ?_
        simp only [takS, Nat.reduceAdd]
        repeat (first | go_big_quiet_skip | (go_big_quiet_want; first | (go_big_quiet_op; go_big_quiet_on)))
        refine wpQuiet_nil ?_
        refine wpRL_nil ?_
        intro wn hbn hE
        have hsz := B.size
        have hzn := hbn.size
        replace B := B.trans (hbn.mono B.size)
        (try first | replace r6 := r6.of_eq (hbn.block _ r6.lt) | replace r6 := r6.below hbn)
        (try first | replace r7 := r7.of_eq (hbn.block _ r7.lt) | replace r7 := r7.below hbn)
        (try first | replace r8 := r8.of_eq (hbn.block _ r8.lt) | replace r8 := r8.below hbn)
        (try first | replace rs1 := rs1.of_eq (hbn.block _ rs1.lt) | replace rs1 := rs1.below hbn)
        (try first | replace rs2 := rs2.of_eq (hbn.block _ rs2.lt) | replace rs2 := rs2.below hbn)
        (try first | replace rs3 := rs3.of_eq (hbn.block _ rs3.lt) | replace rs3 := rs3.below hbn)
        (try first | replace gs := gs.of_eq (hbn.block _ gs.lt) | replace gs := gs.below hbn)
        (try first | replace kt := kt.of_eq (hbn.block _ kt.lt) | replace kt := kt.below hbn)
        (try first | replace s1 := s1.of_eq (hbn.block _ s1.lt) | replace s1 := s1.below hbn)
        clear hE
        try simp only [List.drop_succ_cons, List.drop_zero]
        refine NoPan.normal ?_
        go_wp2
        go_ret
        exact ⟨rfl, BB.out.trans (B.mono BB.out.size)⟩
      | false =>
        have HB := Lib.hid (show eqL (fineL (madeL L)) (fineL (madeL Ls)) = false from by rw [F2.out, F3.out]; exact hb)
        clear hb
        go_upto_region 11 with fail
        try simp only [List.getElem_toArray, List.getElem_cons_zero, List.getElem_cons_succ]
        try have lx_r6 := r6.lt
        try have lx_r7 := r7.lt
        try have lx_r8 := r8.lt
        try have lx_rs1 := rs1.lt
        try have lx_rs2 := rs2.lt
        try have lx_rs3 := rs3.lt
        try have lx_gs := gs.lt
        try have lx_kt := kt.lt
        try have lx_s1 := s1.lt
        refine wp_region_RL 34 [(3, detS ?v3_3), (5, detS ?v3_5), (10, detS ?v3_10), (12, detS ?v3_12), (18, detS ?v3_18), (30, detS ?v3_30), (31, detS ?v3_31)] (by kernel_rfl) (by kernel_rfl) (by kernel_rfl) ?_
        rotate_left 7
        simp only [takS, Nat.reduceAdd]
        refine wpRL_chunk 3 (by kernel_rfl) ?_
        simp only [takS, Nat.reduceAdd]
        repeat (first | go_big_quiet_skip | (go_big_quiet_want; first | (refine quiet_loadAny (t := 30) rfl _ _ _ rfl (fun w hw => run_load_B (ov_B r6 w hw) Tryz.isAgg30 (by kernel_rfl)) (by rfl) ?_; simp only [Act.put, putS]; go_big_quiet_on) | (refine quiet_loadAny (t := 30) rfl _ _ _ rfl (fun w hw => run_load_B (ov_B r7 w hw) Tryz.isAgg30 (by kernel_rfl)) (by rfl) ?_; simp only [Act.put, putS]; go_big_quiet_on) | (refine quiet_loadAny (t := 30) rfl _ _ _ rfl (fun w hw => run_load_B (ov_B r8 w hw) Tryz.isAgg30 (by kernel_rfl)) (by rfl) ?_; simp only [Act.put, putS]; go_big_quiet_on) | (go_big_quiet_op; go_big_quiet_on)))
        refine wpQuiet_nil ?_
        refine wpRL_callB (by rfl) ?hw3_3 ?_ ?_
        case hw3_3 => kernel_rfl
        · intro wn hbn hE Kx hKx
          have hsz := B.size
          have hzn := hbn.size
          replace B := B.trans (hbn.mono B.size)
          (try first | replace r6 := r6.of_eq (hbn.block _ r6.lt) | replace r6 := r6.below hbn)
          (try first | replace r7 := r7.of_eq (hbn.block _ r7.lt) | replace r7 := r7.below hbn)
          (try first | replace r8 := r8.of_eq (hbn.block _ r8.lt) | replace r8 := r8.below hbn)
          (try first | replace rs1 := rs1.of_eq (hbn.block _ rs1.lt) | replace rs1 := rs1.below hbn)
          (try first | replace rs2 := rs2.of_eq (hbn.block _ rs2.lt) | replace rs2 := rs2.below hbn)
          (try first | replace rs3 := rs3.of_eq (hbn.block _ rs3.lt) | replace rs3 := rs3.below hbn)
          (try first | replace gs := gs.of_eq (hbn.block _ gs.lt) | replace gs := gs.below hbn)
          (try first | replace kt := kt.of_eq (hbn.block _ kt.lt) | replace kt := kt.below hbn)
          (try first | replace s1 := s1.of_eq (hbn.block _ s1.lt) | replace s1 := s1.below hbn)
          refine wp_callF rfl (enters_of Tryz.func9 (by kernel_rfl) rfl) (by simp only [List.map_toArray, List.map_cons, List.map_nil, Act.eval, Array.getD_eq_getD_getElem?, List.getElem?_toArray, List.getElem?_cons_succ, List.getElem?_cons_zero, Option.getD_some]; rfl) ?_
          refine (P_KeyO _ (ofRL q L T) K1 _ rs1 (ofL_tok q L T) n1.out m1.out gs kt HK1.out).mono ?_
          rintro e wm ⟨rfl, hbm⟩
          refine ⟨_, rfl, ?_⟩
          have hz := hKx () wm trivial hbm
          dsimp only [detS] at hz
          exact hz
        rintro ⟨⟩
        dsimp only [detS]
        simp only [Act.put, putS]
        refine wpRL_chunk 1 (by kernel_rfl) ?_
        simp only [takS, Nat.reduceAdd]
        repeat (first | go_big_quiet_skip | (go_big_quiet_want; first | (refine quiet_loadAny (t := 30) rfl _ _ _ rfl (fun w hw => run_load_B (ov_B r6 w hw) Tryz.isAgg30 (by kernel_rfl)) (by rfl) ?_; simp only [Act.put, putS]; go_big_quiet_on) | (refine quiet_loadAny (t := 30) rfl _ _ _ rfl (fun w hw => run_load_B (ov_B r7 w hw) Tryz.isAgg30 (by kernel_rfl)) (by rfl) ?_; simp only [Act.put, putS]; go_big_quiet_on) | (refine quiet_loadAny (t := 30) rfl _ _ _ rfl (fun w hw => run_load_B (ov_B r8 w hw) Tryz.isAgg30 (by kernel_rfl)) (by rfl) ?_; simp only [Act.put, putS]; go_big_quiet_on) | (go_big_quiet_op; go_big_quiet_on)))
        refine wpQuiet_nil ?_
        refine wpRL_callB (by rfl) ?hw3_5 ?_ ?_
        case hw3_5 => kernel_rfl
        · intro wn hbn hE Kx hKx
          have hsz := B.size
          have hzn := hbn.size
          replace B := B.trans (hbn.mono B.size)
          (try first | replace r6 := r6.of_eq (hbn.block _ r6.lt) | replace r6 := r6.below hbn)
          (try first | replace r7 := r7.of_eq (hbn.block _ r7.lt) | replace r7 := r7.below hbn)
          (try first | replace r8 := r8.of_eq (hbn.block _ r8.lt) | replace r8 := r8.below hbn)
          (try first | replace rs1 := rs1.of_eq (hbn.block _ rs1.lt) | replace rs1 := rs1.below hbn)
          (try first | replace rs2 := rs2.of_eq (hbn.block _ rs2.lt) | replace rs2 := rs2.below hbn)
          (try first | replace rs3 := rs3.of_eq (hbn.block _ rs3.lt) | replace rs3 := rs3.below hbn)
          (try first | replace gs := gs.of_eq (hbn.block _ gs.lt) | replace gs := gs.below hbn)
          (try first | replace kt := kt.of_eq (hbn.block _ kt.lt) | replace kt := kt.below hbn)
          (try first | replace s1 := s1.of_eq (hbn.block _ s1.lt) | replace s1 := s1.below hbn)
          refine wp_callF rfl (enters_of Tryz.func10 (by kernel_rfl) rfl) (by simp only [List.map_toArray, List.map_cons, List.map_nil, Act.eval, Array.getD_eq_getD_getElem?, List.getElem?_toArray, List.getElem?_cons_succ, List.getElem?_cons_zero, Option.getD_some]; rfl) ?_
          refine (R_KeyO _ (ofRL q L T) K1 _ rs1 (ofL_tok q L T) n1.out m1.out HK1.out).mono ?_
          rintro e wm ⟨rfl, hbm⟩
          refine ⟨_, rfl, ?_⟩
          have hz := hKx () wm trivial hbm
          dsimp only [detS] at hz
          exact hz
        rintro ⟨⟩
        dsimp only [detS]
        simp only [Act.put, putS]
        refine wpRL_chunk 4 (by kernel_rfl) ?_
        simp only [takS, Nat.reduceAdd]
        repeat (first | go_big_quiet_skip | (go_big_quiet_want; first | (refine quiet_loadAny (t := 30) rfl _ _ _ rfl (fun w hw => run_load_B (ov_B r6 w hw) Tryz.isAgg30 (by kernel_rfl)) (by rfl) ?_; simp only [Act.put, putS]; go_big_quiet_on) | (refine quiet_loadAny (t := 30) rfl _ _ _ rfl (fun w hw => run_load_B (ov_B r7 w hw) Tryz.isAgg30 (by kernel_rfl)) (by rfl) ?_; simp only [Act.put, putS]; go_big_quiet_on) | (refine quiet_loadAny (t := 30) rfl _ _ _ rfl (fun w hw => run_load_B (ov_B r8 w hw) Tryz.isAgg30 (by kernel_rfl)) (by rfl) ?_; simp only [Act.put, putS]; go_big_quiet_on) | (go_big_quiet_op; go_big_quiet_on)))
        refine wpQuiet_nil ?_
        refine wpRL_callB (by rfl) ?hw3_10 ?_ ?_
        case hw3_10 => kernel_rfl
        · intro wn hbn hE Kx hKx
          have hsz := B.size
          have hzn := hbn.size
          replace B := B.trans (hbn.mono B.size)
          (try first | replace r6 := r6.of_eq (hbn.block _ r6.lt) | replace r6 := r6.below hbn)
          (try first | replace r7 := r7.of_eq (hbn.block _ r7.lt) | replace r7 := r7.below hbn)
          (try first | replace r8 := r8.of_eq (hbn.block _ r8.lt) | replace r8 := r8.below hbn)
          (try first | replace rs1 := rs1.of_eq (hbn.block _ rs1.lt) | replace rs1 := rs1.below hbn)
          (try first | replace rs2 := rs2.of_eq (hbn.block _ rs2.lt) | replace rs2 := rs2.below hbn)
          (try first | replace rs3 := rs3.of_eq (hbn.block _ rs3.lt) | replace rs3 := rs3.below hbn)
          (try first | replace gs := gs.of_eq (hbn.block _ gs.lt) | replace gs := gs.below hbn)
          (try first | replace kt := kt.of_eq (hbn.block _ kt.lt) | replace kt := kt.below hbn)
          (try first | replace s1 := s1.of_eq (hbn.block _ s1.lt) | replace s1 := s1.below hbn)
          refine wp_callF rfl (enters_of Tryz.func9 (by kernel_rfl) rfl) (by simp only [List.map_toArray, List.map_cons, List.map_nil, Act.eval, Array.getD_eq_getD_getElem?, List.getElem?_toArray, List.getElem?_cons_succ, List.getElem?_cons_zero, Option.getD_some]; rfl) ?_
          refine (P_KeyO _ (madeL L) K2 _ rs2 (madeL_tok L) n2.out m2.out gs kt HK2f.out).mono ?_
          rintro e wm ⟨rfl, hbm⟩
          refine ⟨_, rfl, ?_⟩
          have hz := hKx () wm trivial hbm
          dsimp only [detS] at hz
          exact hz
        rintro ⟨⟩
        dsimp only [detS]
        simp only [Act.put, putS]
        refine wpRL_chunk 1 (by kernel_rfl) ?_
        simp only [takS, Nat.reduceAdd]
        repeat (first | go_big_quiet_skip | (go_big_quiet_want; first | (go_big_quiet_op; go_big_quiet_on)))
        refine wpQuiet_nil ?_
        refine wpRL_callB (by rfl) ?hw3_12 ?_ ?_
        case hw3_12 => kernel_rfl
        · intro wn hbn hE Kx hKx
          have hsz := B.size
          have hzn := hbn.size
          replace B := B.trans (hbn.mono B.size)
          (try first | replace r6 := r6.of_eq (hbn.block _ r6.lt) | replace r6 := r6.below hbn)
          (try first | replace r7 := r7.of_eq (hbn.block _ r7.lt) | replace r7 := r7.below hbn)
          (try first | replace r8 := r8.of_eq (hbn.block _ r8.lt) | replace r8 := r8.below hbn)
          (try first | replace rs1 := rs1.of_eq (hbn.block _ rs1.lt) | replace rs1 := rs1.below hbn)
          (try first | replace rs2 := rs2.of_eq (hbn.block _ rs2.lt) | replace rs2 := rs2.below hbn)
          (try first | replace rs3 := rs3.of_eq (hbn.block _ rs3.lt) | replace rs3 := rs3.below hbn)
          (try first | replace gs := gs.of_eq (hbn.block _ gs.lt) | replace gs := gs.below hbn)
          (try first | replace kt := kt.of_eq (hbn.block _ kt.lt) | replace kt := kt.below hbn)
          (try first | replace s1 := s1.of_eq (hbn.block _ s1.lt) | replace s1 := s1.below hbn)
          refine wp_callF rfl (enters_of Tryz.func11 (by kernel_rfl) rfl) (by simp only [List.map_toArray, List.map_cons, List.map_nil, Act.eval, Array.getD_eq_getD_getElem?, List.getElem?_toArray, List.getElem?_cons_succ, List.getElem?_cons_zero, Option.getD_some]; rfl) ?_
          refine (P_JoinO s1 (by omega) hM.out gs kt K2 HJ.out).mono ?_
          rintro e wm ⟨rfl, hbm⟩
          refine ⟨_, rfl, ?_⟩
          have hz := hKx () wm trivial hbm
          dsimp only [detS] at hz
          exact hz
        rintro ⟨⟩
        dsimp only [detS]
        simp only [Act.put, putS]
        refine wpRL_chunk 5 (by kernel_rfl) ?_
        simp only [takS, Nat.reduceAdd]
        repeat (first | go_big_quiet_skip | (go_big_quiet_want; first | (refine quiet_loadAny (t := 30) rfl _ _ _ rfl (fun w hw => run_load_B (ov_B r6 w hw) Tryz.isAgg30 (by kernel_rfl)) (by rfl) ?_; simp only [Act.put, putS]; go_big_quiet_on) | (refine quiet_loadAny (t := 30) rfl _ _ _ rfl (fun w hw => run_load_B (ov_B r7 w hw) Tryz.isAgg30 (by kernel_rfl)) (by rfl) ?_; simp only [Act.put, putS]; go_big_quiet_on) | (refine quiet_loadAny (t := 30) rfl _ _ _ rfl (fun w hw => run_load_B (ov_B r8 w hw) Tryz.isAgg30 (by kernel_rfl)) (by rfl) ?_; simp only [Act.put, putS]; go_big_quiet_on) | (go_big_quiet_op; go_big_quiet_on)))
        refine wpQuiet_nil ?_
        refine wpRL_callB (by rfl) ?hw3_18 ?_ ?_
        case hw3_18 => kernel_rfl
        · intro wn hbn hE Kx hKx
          have hsz := B.size
          have hzn := hbn.size
          replace B := B.trans (hbn.mono B.size)
          (try first | replace r6 := r6.of_eq (hbn.block _ r6.lt) | replace r6 := r6.below hbn)
          (try first | replace r7 := r7.of_eq (hbn.block _ r7.lt) | replace r7 := r7.below hbn)
          (try first | replace r8 := r8.of_eq (hbn.block _ r8.lt) | replace r8 := r8.below hbn)
          (try first | replace rs1 := rs1.of_eq (hbn.block _ rs1.lt) | replace rs1 := rs1.below hbn)
          (try first | replace rs2 := rs2.of_eq (hbn.block _ rs2.lt) | replace rs2 := rs2.below hbn)
          (try first | replace rs3 := rs3.of_eq (hbn.block _ rs3.lt) | replace rs3 := rs3.below hbn)
          (try first | replace gs := gs.of_eq (hbn.block _ gs.lt) | replace gs := gs.below hbn)
          (try first | replace kt := kt.of_eq (hbn.block _ kt.lt) | replace kt := kt.below hbn)
          (try first | replace s1 := s1.of_eq (hbn.block _ s1.lt) | replace s1 := s1.below hbn)
          refine wp_callF rfl (enters_of Tryz.func12 (by kernel_rfl) rfl) (by simp only [List.map_toArray, List.map_cons, List.map_nil, Act.eval, Array.getD_eq_getD_getElem?, List.getElem?_toArray, List.getElem?_cons_succ, List.getElem?_cons_zero, Option.getD_some]; rfl) ?_
          refine (P_EqualO _ _ (madeL L) (madeL Ls) false _ rs2 rs3 (madeL_tok L) (madeL_tok Ls) n2.out n3.out HB.out).mono ?_
          rintro e wm ⟨rfl, hbm⟩
          refine ⟨_, rfl, ?_⟩
          have hz := hKx () wm trivial hbm
          dsimp only [detS] at hz
          exact hz
        rintro ⟨⟩
        dsimp only [detS]
        simp only [Act.put, putS]
        refine wpRL_chunk 3 (by kernel_rfl) ?_
        simp only [takS, Nat.reduceAdd]
        repeat (first | go_big_quiet_skip | (go_big_quiet_want; first | (refine quiet_loadAny (t := 30) rfl _ _ _ rfl (fun w hw => run_load_B (ov_B r6 w hw) Tryz.isAgg30 (by kernel_rfl)) (by rfl) ?_; simp only [Act.put, putS]; go_big_quiet_on) | (refine quiet_loadAny (t := 30) rfl _ _ _ rfl (fun w hw => run_load_B (ov_B r7 w hw) Tryz.isAgg30 (by kernel_rfl)) (by rfl) ?_; simp only [Act.put, putS]; go_big_quiet_on) | (refine quiet_loadAny (t := 30) rfl _ _ _ rfl (fun w hw => run_load_B (ov_B r8 w hw) Tryz.isAgg30 (by kernel_rfl)) (by rfl) ?_; simp only [Act.put, putS]; go_big_quiet_on) | (go_big_quiet_op; go_big_quiet_on)))
        refine wpQuiet_nil ?_
        refine wpRL_skip ?hw3_22 ?_
        case hw3_22 => kernel_rfl
        simp only [Act.put, putS]
        refine wpRL_chunk 1 (by kernel_rfl) ?_
        simp only [takS, Nat.reduceAdd]
        repeat (first | go_big_quiet_skip | (go_big_quiet_want; first | (refine quiet_loadAny (t := 30) rfl _ _ _ rfl (fun w hw => run_load_B (ov_B r6 w hw) Tryz.isAgg30 (by kernel_rfl)) (by rfl) ?_; simp only [Act.put, putS]; go_big_quiet_on) | (refine quiet_loadAny (t := 30) rfl _ _ _ rfl (fun w hw => run_load_B (ov_B r7 w hw) Tryz.isAgg30 (by kernel_rfl)) (by rfl) ?_; simp only [Act.put, putS]; go_big_quiet_on) | (refine quiet_loadAny (t := 30) rfl _ _ _ rfl (fun w hw => run_load_B (ov_B r8 w hw) Tryz.isAgg30 (by kernel_rfl)) (by rfl) ?_; simp only [Act.put, putS]; go_big_quiet_on) | (go_big_quiet_op; go_big_quiet_on)))
        refine wpQuiet_nil ?_
        refine wpRL_skip ?hw3_24 ?_
        case hw3_24 => kernel_rfl
        simp only [Act.put, putS]
        refine wpRL_chunk 5 (by kernel_rfl) ?_
        simp only [takS, Nat.reduceAdd]
        repeat (first | go_big_quiet_skip | (go_big_quiet_want; first | (refine quiet_loadAny (t := 30) rfl _ _ _ rfl (fun w hw => run_load_B (ov_B r6 w hw) Tryz.isAgg30 (by kernel_rfl)) (by rfl) ?_; simp only [Act.put, putS]; go_big_quiet_on) | (refine quiet_loadAny (t := 30) rfl _ _ _ rfl (fun w hw => run_load_B (ov_B r7 w hw) Tryz.isAgg30 (by kernel_rfl)) (by rfl) ?_; simp only [Act.put, putS]; go_big_quiet_on) | (refine quiet_loadAny (t := 30) rfl _ _ _ rfl (fun w hw => run_load_B (ov_B r8 w hw) Tryz.isAgg30 (by kernel_rfl)) (by rfl) ?_; simp only [Act.put, putS]; go_big_quiet_on) | (go_big_quiet_op; go_big_quiet_on)))
        refine wpQuiet_nil ?_
        refine wpRL_callB (by rfl) ?hw3_30 ?_ ?_
        case hw3_30 => kernel_rfl
        · intro wn hbn hE Kx hKx
          have hsz := B.size
          have hzn := hbn.size
          replace B := B.trans (hbn.mono B.size)
          (try first | replace r6 := r6.of_eq (hbn.block _ r6.lt) | replace r6 := r6.below hbn)
          (try first | replace r7 := r7.of_eq (hbn.block _ r7.lt) | replace r7 := r7.below hbn)
          (try first | replace r8 := r8.of_eq (hbn.block _ r8.lt) | replace r8 := r8.below hbn)
          (try first | replace rs1 := rs1.of_eq (hbn.block _ rs1.lt) | replace rs1 := rs1.below hbn)
          (try first | replace rs2 := rs2.of_eq (hbn.block _ rs2.lt) | replace rs2 := rs2.below hbn)
          (try first | replace rs3 := rs3.of_eq (hbn.block _ rs3.lt) | replace rs3 := rs3.below hbn)
          (try first | replace gs := gs.of_eq (hbn.block _ gs.lt) | replace gs := gs.below hbn)
          (try first | replace kt := kt.of_eq (hbn.block _ kt.lt) | replace kt := kt.below hbn)
          (try first | replace s1 := s1.of_eq (hbn.block _ s1.lt) | replace s1 := s1.below hbn)
          refine wp_callF rfl (enters_of Tryz.func9 (by kernel_rfl) rfl) (by simp only [List.map_toArray, List.map_cons, List.map_nil, Act.eval, Array.getD_eq_getD_getElem?, List.getElem?_toArray, List.getElem?_cons_succ, List.getElem?_cons_zero, Option.getD_some]; rfl) ?_
          refine (P_KeyO _ (ofRL q L T) K1 _ rs1 (ofL_tok q L T) n1.out m1.out gs kt HK1.out).mono ?_
          rintro e wm ⟨rfl, hbm⟩
          refine ⟨_, rfl, ?_⟩
          have hz := hKx () wm trivial hbm
          dsimp only [detS] at hz
          exact hz
        rintro ⟨⟩
        dsimp only [detS]
        simp only [Act.put, putS]
        refine wpRL_callB (by rfl) ?hw3_31 ?_ ?_
        case hw3_31 => kernel_rfl
        · intro wn hbn hE Kx hKx
          have hsz := B.size
          have hzn := hbn.size
          replace B := B.trans (hbn.mono B.size)
          (try first | replace r6 := r6.of_eq (hbn.block _ r6.lt) | replace r6 := r6.below hbn)
          (try first | replace r7 := r7.of_eq (hbn.block _ r7.lt) | replace r7 := r7.below hbn)
          (try first | replace r8 := r8.of_eq (hbn.block _ r8.lt) | replace r8 := r8.below hbn)
          (try first | replace rs1 := rs1.of_eq (hbn.block _ rs1.lt) | replace rs1 := rs1.below hbn)
          (try first | replace rs2 := rs2.of_eq (hbn.block _ rs2.lt) | replace rs2 := rs2.below hbn)
          (try first | replace rs3 := rs3.of_eq (hbn.block _ rs3.lt) | replace rs3 := rs3.below hbn)
          (try first | replace gs := gs.of_eq (hbn.block _ gs.lt) | replace gs := gs.below hbn)
          (try first | replace kt := kt.of_eq (hbn.block _ kt.lt) | replace kt := kt.below hbn)
          (try first | replace s1 := s1.of_eq (hbn.block _ s1.lt) | replace s1 := s1.below hbn)
          refine wp_callF rfl (enters_of Tryz.func13 (by kernel_rfl) rfl) (by simp only [List.map_toArray, List.map_cons, List.map_nil, Act.eval, Array.getD_eq_getD_getElem?, List.getElem?_toArray, List.getElem?_cons_succ, List.getElem?_cons_zero, Option.getD_some]; rfl) ?_
          refine (S_ValidT K1 _ z1.out).mono ?_
          rintro e wm ⟨rfl, hbm⟩
          refine ⟨_, rfl, ?_⟩
          have hz := hKx () wm trivial hbm
          dsimp only [detS] at hz
          exact hz
        rintro ⟨⟩
        dsimp only [detS]
        simp only [Act.put, putS]
        refine wpRL_chunk 2 (by kernel_rfl) ?_
        simp only [takS, Nat.reduceAdd]
        repeat (first | go_big_quiet_skip | (go_big_quiet_want; first | (go_big_quiet_op; go_big_quiet_on)))
        refine wpQuiet_nil ?_
        refine wpRL_nil ?_
        intro wn hbn hE
        have hsz := B.size
        have hzn := hbn.size
        replace B := B.trans (hbn.mono B.size)
        (try first | replace r6 := r6.of_eq (hbn.block _ r6.lt) | replace r6 := r6.below hbn)
        (try first | replace r7 := r7.of_eq (hbn.block _ r7.lt) | replace r7 := r7.below hbn)
        (try first | replace r8 := r8.of_eq (hbn.block _ r8.lt) | replace r8 := r8.below hbn)
        (try first | replace rs1 := rs1.of_eq (hbn.block _ rs1.lt) | replace rs1 := rs1.below hbn)
        (try first | replace rs2 := rs2.of_eq (hbn.block _ rs2.lt) | replace rs2 := rs2.below hbn)
        (try first | replace rs3 := rs3.of_eq (hbn.block _ rs3.lt) | replace rs3 := rs3.below hbn)
        (try first | replace gs := gs.of_eq (hbn.block _ gs.lt) | replace gs := gs.below hbn)
        (try first | replace kt := kt.of_eq (hbn.block _ kt.lt) | replace kt := kt.below hbn)
        (try first | replace s1 := s1.of_eq (hbn.block _ s1.lt) | replace s1 := s1.below hbn)
        clear hE
        try simp only [List.drop_succ_cons, List.drop_zero]
        refine NoPan.normal ?_
        go_wp2
        go_ret
        exact ⟨rfl, BB.out.trans (B.mono BB.out.size)⟩
namespace rasterKey
open Go.ChangeShapes Go.WideShapes Go.ChangeAt Go.RowKit
open Go.ChangeMaps (open_string shut_string)
set_option maxRecDepth 100000 in
theorem lifted (os : Os) (started : os.Started) (H : Type) (enc : TypeId × Value → H) :
    ReturnsInHanded {} Tryz.checked os 3 .any (fun w args => (Rows.rasterKeySpec.pre enc Tryz.prog Tryz.f3 [] false w args ∧ laidMetH Tryz.prog laidD w) ∧ sizedMet enc Tryz.prog Tryz.f3 (OpenSpec.ofChange Rows.rasterKeySpec) false w args) (Rows.rasterKeySpec.post enc Tryz.prog Tryz.f3 false true false false) := by
  refine returnsInHanded_of_change_and (C := Tryz.checked) (X := fun w _ => laidMetH Tryz.prog laidD w) (fun _ _ _ hh h => h.of_heap hh) own started (by kernel_rfl) Tryz.func3
    (ChangeSpec.witness_shaped (enc := enc) (C := Tryz.checked) (os := os) (X := fun w _ => laidMetH Tryz.prog laidD w) false (World.doorLaid Tryz.prog 400 os) #[.agg #[.slice none 0 0, .int .i64 0, .int .i64 0, .int .i64 0, .slice none 0 0, .int .i64 0], .slice none 0 0] 8 rfl (World.shaped_of_RefB (by kernel_rfl) (by kernel_rfl)) (by kernel_rfl) (by kernel_rfl) (by kernel_rfl) (door_met os _)) ?_
  intro W base args ds gs before hval0 hW _ hsz0 hL _
  obtain ⟨hgs, hkt⟩ := of_laid hL
  have hval : ∀ (j : Nat) t v, Tryz.f3.params[j]? = some t → args[j]? = some v → Value.okWide Tryz.prog W .any base t v := hval0
  have hW' := hW
  obtain ⟨p, q, hA0, hV, rfl, hfz, hnd⟩ := hW
  have hA : DataW.TrodAll enc Tryz.prog W 0 (fun _ => true) true Tryz.f3.params.toList args.toList ds p := hA0
  rw [Tryz.params3] at hA hval hsz0
  obtain ⟨v0, vs0, d0, ds0, p0, q0, hargs, rfl, rfl, h0, r0⟩ := trodAll_cons hA
  obtain ⟨v1, vs1, d1, ds1, p1, q1, rfl, rfl, rfl, h1, r1⟩ := trodAll_cons r0
  obtain ⟨rfl, rfl, rfl⟩ := trodAll_nil r1
  obtain rfl : args = #[v0, v1] := by cases args; simp_all
  obtain ⟨rfl, rfl⟩ := trodVars_none hV
  have hwt0 : ∀ n ∈ DataW.weights Tryz.prog 26 d0, n ≤ reachBytes := fun n hn => by simpa using List.all_eq_true.1 hsz0 n (DataW.weights_mem_each (j := 0) rfl rfl n hn)
  have hwt1 : ∀ n ∈ DataW.weights Tryz.prog 22 d1, n ≤ reachBytes := fun n hn => by simpa using List.all_eq_true.1 hsz0 n (DataW.weights_mem_each (j := 1) rfl rfl n hn)
  have k0 := h0
  have lt0 : ∀ x ∈ p0, x.block < W.heap.size := by obtain ⟨m, hm⟩ := k0; exact DataW.trod_lt m _ _ _ hm
  have k1 := h1
  have lt1 : ∀ x ∈ p1, x.block < W.heap.size := by obtain ⟨m, hm⟩ := k1; exact DataW.trod_lt m _ _ _ hm
  obtain ⟨a0, vl0, vt0, L0, T0, rfl, hL0, hLn0, hT0, hTn0⟩ := open_raw (hval 0 26 v0 rfl rfl) h0 hwt0
  obtain ⟨L1, hL1, hLn1⟩ := open_ints1 (hval 1 22 v1 rfl rfl) h1 hwt1
  clear hA0 hval0
  refine (walk_RasterKey a0 vl0 vt0 L0 T0 v1 L1   W hgs hkt hL0 hLn0 hT0 hTn0 hL1 hLn1).mono fun e W' ⟨he, bel⟩ => ?_
  subst he
  exact ⟨_, rfl, _, _, _, [], _, [], hW', trodAll_mk1 (shut_bool Tryz.underlying4 _), (trodAll_cons_mk (Below.trod laidOut (by kernel_rfl) (of_decide_eq_true (by kernel_rfl)) k0 bel lt0) (trodAll_cons_mk (Below.trod laidOut (by kernel_rfl) (of_decide_eq_true (by kernel_rfl)) k1 bel lt1) trodAll_mk0)), rfl, bel.frame _, fun h => by cases h⟩
theorem over : Rows.rasterKeyRow.holds Tryz.pinned (OpenSpec.ofChange Rows.rasterKeySpec) :=
  OpenClaim.holds_of_wide 3 Tryz.f3 rfl rfl rfl rfl rfl rfl rfl ⟨rfl, rfl, rfl, rfl, rfl⟩ rfl rfl rfl rfl rfl (by kernel_rfl) Tryz.func3 (by kernel_rfl)
    (of_decide_eq_true (by kernel_rfl)) (by unfold Func.isWrapper; first | (rw [if_pos (by decide +kernel)]; kernel_rfl) | (rw [if_neg (by decide +kernel)]; exact ⟨rfl, rfl⟩))
    (fun os started H enc _ => lifted os started H enc)
/-- THE STATEMENT: RasterKey returns true for every input, and its arguments read as they did; what the two tables hold is tied to the program's text. -/
theorem proved : Rows.RasterKeyCardSaid := by
  unfold Rows.RasterKeyCardSaid Rows.rasterKeyCard
  exact Claim7.holds_tied_plain_at .later [] [.data, .data] true _ false over (fun _ h => by cases h) (by kernel_rfl) (fun _ h => by cases h) rasterKey_row_tie rfl ⟨rfl, rfl⟩ (by kernel_rfl) rfl
    (fun f fn hf hfn => by
      obtain rfl : f = 3 := Option.some.inj ((show Tryz.prog.funcNamed "gouache/gouachelaw08.RasterKey" = some 3 by kernel_rfl).symm.trans hf) |>.symm
      obtain rfl : fn = Tryz.f3 := (Option.some.inj (Tryz.func3.symm.trans hfn)).symm
      exact ⟨by kernel_rfl, fun j t ht => by
        rw [Tryz.params3] at ht
        have hm : t ∈ [26, 22] := by simpa using Array.mem_of_getElem? ht
        have hall : ([26, 22].all fun u => !Tryz.prog.wantsStandIn u) = true := by kernel_rfl
        exact (show Tryz.prog.wantsStandIn t = false by simpa using List.all_eq_true.1 hall t hm)⟩)
    (by kernel_rfl)
end rasterKey
end Go.Proofs.YtppccnjckiedlaaGreatDoor
