import Derived.Test.YtppccnjckiedlaaZp4
import Derived.RangeFuncFrom
import Derived.Sort.CutIn
import Derived.LoopNIn

/- The iterator over the tiles of a rectangle: its contract. -/
namespace Go.Proofs.Ytppccnjckiedlaa
open Go.RowKit Go.Shelf Pl
attribute [local go_sem] Oper.semAt_some
set_option linter.unusedVariables false
set_option linter.unusedSimpArgs false
set_option maxRecDepth 20000
/-- The first k of N. -/
def fpre (N k : Nat) : List (Fin N) := (List.finRange N).take k
theorem fpre_succ {N k : Nat} (h : k < N) : fpre N (k + 1) = fpre N k ++ [⟨k, h⟩] := by
  unfold fpre
  rw [List.take_succ_eq_append_getElem (by simp; omega)]
  simp
theorem fpre_length {N k : Nat} (h : k ≤ N) : (fpre N k).length = k := by unfold fpre; simp; omega
theorem fpre_zero (N : Nat) : fpre N 0 = [] := rfl
theorem fpre_all (N : Nat) : fpre N N = List.finRange N := by unfold fpre; rw [List.take_of_length_le (by simp)]
def posF (c : Rc) (i : Fin (tlN c)) : Int × Int := posP c i.val
theorem posF_all (c : Rc) : (List.finRange (tlN c)).map (posF c) = posL c := by
  unfold posL
  refine List.ext_getElem (by simp) fun i h1 h2 => ?_
  simp [posF]
set_option maxHeartbeats 4000000 in
theorem tiles_stops (c : Rc) (HF : Fits c) (bc b8 n : Nat) (hn1 : 1 ≤ n) (w : World) (r0 : AtB 64 w bc (rcA c)) (hb8 : b8 < w.heap.size) :
    SeqStopsK Fence.wide n Try.prog 108 #[.pointer (some ⟨bc, 0, none⟩)] (fun i : Fin (tlN c) => #[.agg #[.int .i64 (posF c i).1, .int .i64 (posF c i).2]]) (KpB b8) (fun xs => xs = List.finRange (tlN c)) (fun _ => True) (tlN c) w := fun l J Jx W0 hW hJa hJxa hY h0 => by
  have hb8 := Nat.lt_of_lt_of_le hb8 hW.size
  have r0 := r0.of_eq (hW.block _ r0.lt)
  have B := Below.refl W0.heap.size W0
  clear hW hJxa
  have hf := Lib.hid HF
  have HJ := Lib.hid (fun (W' : World) (hb : Below W0.heap.size W0 W') => AbidesFrom.below hJa h0 hb)
  have HY := Lib.hid hY
  clear h0 hJa hY
  obtain ⟨hew, hw0⟩ := area_wid (tl_fits HF)
  have hNle := tlN_le HF
  obtain ⟨f1, f2, f3, f4, f5, f6, f7, f8⟩ := HF
  have hE := Lib.hid (show emptyR c = false from (emptyR_not _).2 ⟨f1, f2⟩)
  obtain ⟨W, hW⟩ : ∃ W : Nat, (c.x1 - 1) / 8 + 1 - c.x0 / 8 = (W : Int) := ⟨((c.x1 - 1) / 8 + 1 - c.x0 / 8).toNat, by omega⟩
  obtain ⟨H, hH⟩ : ∃ H : Nat, (c.y1 - 1) / 8 + 1 - c.y0 / 8 = (H : Int) := ⟨((c.y1 - 1) / 8 + 1 - c.y0 / 8).toNat, by omega⟩
  have eW : widN (tlR c) = W := by unfold widN tlR; simp only; rw [hW]; exact Int.toNat_natCast _
  have eH : ((tlR c).y1 - (tlR c).y0).toNat = H := by unfold tlR; simp only; rw [hH]; exact Int.toNat_natCast _
  rw [eW, eH] at hew
  rw [eW] at hw0
  change tlN c = W * H at hew
  have HR := Lib.hid (fun (k j : Nat) (hj : j < W) => by
    have := tl_row (c := c) hf.out (k := k) (j := j) (by rw [eW]; exact hj)
    rw [eW] at this
    exact this)
  have wf1 := Lib.hid (show (Lit.int .i64 c.x0).wf = true from wf_mk (by omega) (by omega))
  have wf2 := Lib.hid (show (Lit.int .i64 c.y0).wf = true from wf_mk (by omega) (by omega))
  have wf3 := Lib.hid (show (Lit.int .i64 (c.x1 - 1)).wf = true from wf_mk (by omega) (by omega))
  have wf4 := Lib.hid (show (Lit.int .i64 (c.y1 - 1)).wf = true from wf_mk (by omega) (by omega))
  refine callsIn_wide.2 ?_
  show Calls Try.prog 108 #[.func (.yield l) #[] #[], .pointer (some ⟨bc, 0, none⟩)] W0 _
  go_enter Try.func108, Try.ntmps108
  go_upto_region 0 with fail
  refine wp_region_lit ?_
  try simp only [List.getElem_toArray, List.getElem_cons_zero, List.getElem_cons_succ]
  refine wpList_chunk 1 (by kernel_rfl) ?_
  simp only [takS, Nat.reduceAdd]
  repeat (first | go_big_quiet_skip | (go_big_quiet_want; first | (refine quiet_loadAny (t := 64) rfl _ _ _ rfl (fun w hw => run_load_B (ov_B r0 w hw) Try.isAgg64 (by kernel_rfl)) (by rfl) ?_; simp only [Act.put, putS]; go_big_quiet_on) | (refine quiet_loadAny (t := 3) rfl _ _ _ rfl (fun w hw => run_load_int ((ov_B r0 w hw).cellL 0 rfl)) (by rfl) ?_; simp only [Act.put, putS]; go_big_quiet_on) | (refine quiet_loadAny (t := 3) rfl _ _ _ rfl (fun w hw => run_load_int ((ov_B r0 w hw).cellL 1 rfl)) (by rfl) ?_; simp only [Act.put, putS]; go_big_quiet_on) | (refine quiet_loadAny (t := 3) rfl _ _ _ rfl (fun w hw => run_load_int ((ov_B r0 w hw).cellL 2 rfl)) (by rfl) ?_; simp only [Act.put, putS]; go_big_quiet_on) | (refine quiet_loadAny (t := 3) rfl _ _ _ rfl (fun w hw => run_load_int ((ov_B r0 w hw).cellL 3 rfl)) (by rfl) ?_; simp only [Act.put, putS]; go_big_quiet_on) | (refine quiet_loadAny (t := 3) rfl _ _ _ rfl (fun w hw => run_load_int ((ov_B p3 w hw).cellL 0 rfl)) (by rfl) ?_; simp only [Act.put, putS]; go_big_quiet_on) | (refine quiet_loadAny (t := 3) rfl _ _ _ rfl (fun w hw => run_load_int ((ov_B p3 w hw).cellL 1 rfl)) (by rfl) ?_; simp only [Act.put, putS]; go_big_quiet_on) | (refine quiet_loadAny (t := 3) rfl _ _ _ rfl (fun w hw => run_load_int ((ov_B p4 w hw).cellL 0 rfl)) (by rfl) ?_; simp only [Act.put, putS]; go_big_quiet_on) | (refine quiet_loadAny (t := 3) rfl _ _ _ rfl (fun w hw => run_load_int ((ov_B p4 w hw).cellL 1 rfl)) (by rfl) ?_; simp only [Act.put, putS]; go_big_quiet_on) | (go_big_quiet_op; go_big_quiet_on)))
  refine wpQuiet_nil ?_
  refine wpList_callF (by first | rfl | simp [Region.wanted, yielded]) rfl (enters_of Try.func105 (by kernel_rfl) rfl) (by simp only [List.map_toArray, List.map_cons, List.map_nil, Act.eval, Array.getD_eq_getD_getElem?, List.getElem?_toArray, List.getElem?_cons_succ, List.getElem?_cons_zero, Option.getD_some]; rfl) ?_
  refine (P_EmptyB c false _ hE.out).mono ?_
  rintro e wn ⟨rfl, hbn⟩
  have hsz := B.size
  have hzn := hbn.size
  replace B := B.trans (hbn.mono B.size)
  (try first | replace r0 := r0.of_eq (hbn.block _ r0.lt) | replace r0 := r0.below hbn)
  (try first | replace p3 := p3.of_eq (hbn.block _ p3.lt) | replace p3 := p3.below hbn)
  (try first | replace p4 := p4.of_eq (hbn.block _ p4.lt) | replace p4 := p4.below hbn)
  refine ⟨_, rfl, ?_⟩
  simp only [Act.put, putS]
  refine wpList_nil ?_
  have hsw := hbn.size
  go_upto_region 1 with fail
  have r0B := r0
  go_cut [3, 4] from 9 to 29 (fun s3 s4 wx => ∃ b_p3 b_p4, s3 = .pointer (some ⟨b_p3, 0, none⟩) ∧ s4 = .pointer (some ⟨b_p4, 0, none⟩) ∧ Below W0.heap.size W0 wx ∧ W0.heap.size ≤ b_p3 ∧ W0.heap.size ≤ b_p4 ∧ AtB 24 wx b_p3 #[.int .i64 (c.x0 / 8), .int .i64 (c.y0 / 8)] ∧ AtB 24 wx b_p4 #[.int .i64 ((c.x1 - 1) / 8), .int .i64 ((c.y1 - 1) / 8)])
  case first =>
    refine wp_region_X0 16 #[false, false, false, false, false, false, false, false, false, false, false, false, false, false, false, false, false, false] (by kernel_rfl) (by kernel_rfl) ?_
    intro wn hbn
    have hX := hbn
    have hsz := B.size
    have hzn := hbn.size
    replace B := B.trans (hbn.mono B.size)
    try first | replace r0 := r0.of_eq (hbn.block _ r0.lt) | replace r0 := r0.below hbn
    simp only [List.length_cons, List.length_nil, Nat.reduceAdd]
    refine anyX_take 0 rfl (by kernel_rfl) ⟨_, ov_of hX⟩ ?_
    intro K hK
    try simp only [List.getElem_toArray, List.getElem_cons_zero, List.getElem_cons_succ]
    (first | (refine quiet_loadAny (t := 64) rfl _ _ _ rfl (fun w hw => run_load_B (ov_B r0B w hw) Try.isAgg64 (by kernel_rfl)) (by rfl) ?_; simp only [Act.put, putS]; go_big_quiet_on) | (refine quiet_loadAny (t := 3) rfl _ _ _ rfl (fun w hw => run_load_int ((ov_B r0B w hw).cellL 0 rfl)) (by rfl) ?_; simp only [Act.put, putS]; go_big_quiet_on) | (refine quiet_loadAny (t := 3) rfl _ _ _ rfl (fun w hw => run_load_int ((ov_B r0B w hw).cellL 1 rfl)) (by rfl) ?_; simp only [Act.put, putS]; go_big_quiet_on) | (refine quiet_loadAny (t := 3) rfl _ _ _ rfl (fun w hw => run_load_int ((ov_B r0B w hw).cellL 2 rfl)) (by rfl) ?_; simp only [Act.put, putS]; go_big_quiet_on) | (refine quiet_loadAny (t := 3) rfl _ _ _ rfl (fun w hw => run_load_int ((ov_B r0B w hw).cellL 3 rfl)) (by rfl) ?_; simp only [Act.put, putS]; go_big_quiet_on) | (go_big_quiet_op; go_big_quiet_on))
    simp only [Act.put, putS]
    refine anyX_take 1 rfl (by kernel_rfl) ⟨_, ov_of hX⟩ ?_
    intro K hK
    try simp only [List.getElem_toArray, List.getElem_cons_zero, List.getElem_cons_succ]
    (first | (refine quiet_loadAny (t := 64) rfl _ _ _ rfl (fun w hw => run_load_B (ov_B r0B w hw) Try.isAgg64 (by kernel_rfl)) (by rfl) ?_; simp only [Act.put, putS]; go_big_quiet_on) | (refine quiet_loadAny (t := 3) rfl _ _ _ rfl (fun w hw => run_load_int ((ov_B r0B w hw).cellL 0 rfl)) (by rfl) ?_; simp only [Act.put, putS]; go_big_quiet_on) | (refine quiet_loadAny (t := 3) rfl _ _ _ rfl (fun w hw => run_load_int ((ov_B r0B w hw).cellL 1 rfl)) (by rfl) ?_; simp only [Act.put, putS]; go_big_quiet_on) | (refine quiet_loadAny (t := 3) rfl _ _ _ rfl (fun w hw => run_load_int ((ov_B r0B w hw).cellL 2 rfl)) (by rfl) ?_; simp only [Act.put, putS]; go_big_quiet_on) | (refine quiet_loadAny (t := 3) rfl _ _ _ rfl (fun w hw => run_load_int ((ov_B r0B w hw).cellL 3 rfl)) (by rfl) ?_; simp only [Act.put, putS]; go_big_quiet_on) | (go_big_quiet_op; go_big_quiet_on))
    simp only [Act.put, putS]
    refine anyX_take 2 rfl (by kernel_rfl) ⟨_, ov_of hX⟩ ?_
    intro K hK
    try simp only [List.getElem_toArray, List.getElem_cons_zero, List.getElem_cons_succ]
    (first | (refine quiet_loadAny (t := 64) rfl _ _ _ rfl (fun w hw => run_load_B (ov_B r0B w hw) Try.isAgg64 (by kernel_rfl)) (by rfl) ?_; simp only [Act.put, putS]; go_big_quiet_on) | (refine quiet_loadAny (t := 3) rfl _ _ _ rfl (fun w hw => run_load_int ((ov_B r0B w hw).cellL 0 rfl)) (by rfl) ?_; simp only [Act.put, putS]; go_big_quiet_on) | (refine quiet_loadAny (t := 3) rfl _ _ _ rfl (fun w hw => run_load_int ((ov_B r0B w hw).cellL 1 rfl)) (by rfl) ?_; simp only [Act.put, putS]; go_big_quiet_on) | (refine quiet_loadAny (t := 3) rfl _ _ _ rfl (fun w hw => run_load_int ((ov_B r0B w hw).cellL 2 rfl)) (by rfl) ?_; simp only [Act.put, putS]; go_big_quiet_on) | (refine quiet_loadAny (t := 3) rfl _ _ _ rfl (fun w hw => run_load_int ((ov_B r0B w hw).cellL 3 rfl)) (by rfl) ?_; simp only [Act.put, putS]; go_big_quiet_on) | (go_big_quiet_op; go_big_quiet_on))
    simp only [Act.put, putS]
    refine anyX_take 3 rfl (by kernel_rfl) ⟨_, ov_of hX⟩ ?_
    intro K hK
    try simp only [List.getElem_toArray, List.getElem_cons_zero, List.getElem_cons_succ]
    (first | (refine quiet_loadAny (t := 64) rfl _ _ _ rfl (fun w hw => run_load_B (ov_B r0B w hw) Try.isAgg64 (by kernel_rfl)) (by rfl) ?_; simp only [Act.put, putS]; go_big_quiet_on) | (refine quiet_loadAny (t := 3) rfl _ _ _ rfl (fun w hw => run_load_int ((ov_B r0B w hw).cellL 0 rfl)) (by rfl) ?_; simp only [Act.put, putS]; go_big_quiet_on) | (refine quiet_loadAny (t := 3) rfl _ _ _ rfl (fun w hw => run_load_int ((ov_B r0B w hw).cellL 1 rfl)) (by rfl) ?_; simp only [Act.put, putS]; go_big_quiet_on) | (refine quiet_loadAny (t := 3) rfl _ _ _ rfl (fun w hw => run_load_int ((ov_B r0B w hw).cellL 2 rfl)) (by rfl) ?_; simp only [Act.put, putS]; go_big_quiet_on) | (refine quiet_loadAny (t := 3) rfl _ _ _ rfl (fun w hw => run_load_int ((ov_B r0B w hw).cellL 3 rfl)) (by rfl) ?_; simp only [Act.put, putS]; go_big_quiet_on) | (go_big_quiet_op; go_big_quiet_on))
    simp only [Act.put, putS]
    refine anyX_take 4 rfl (by kernel_rfl) ⟨_, ov_of hX⟩ ?_
    intro K hK
    try simp only [List.getElem_toArray, List.getElem_cons_zero, List.getElem_cons_succ]
    (first | (refine quiet_loadAny (t := 64) rfl _ _ _ rfl (fun w hw => run_load_B (ov_B r0B w hw) Try.isAgg64 (by kernel_rfl)) (by rfl) ?_; simp only [Act.put, putS]; go_big_quiet_on) | (refine quiet_loadAny (t := 3) rfl _ _ _ rfl (fun w hw => run_load_int ((ov_B r0B w hw).cellL 0 rfl)) (by rfl) ?_; simp only [Act.put, putS]; go_big_quiet_on) | (refine quiet_loadAny (t := 3) rfl _ _ _ rfl (fun w hw => run_load_int ((ov_B r0B w hw).cellL 1 rfl)) (by rfl) ?_; simp only [Act.put, putS]; go_big_quiet_on) | (refine quiet_loadAny (t := 3) rfl _ _ _ rfl (fun w hw => run_load_int ((ov_B r0B w hw).cellL 2 rfl)) (by rfl) ?_; simp only [Act.put, putS]; go_big_quiet_on) | (refine quiet_loadAny (t := 3) rfl _ _ _ rfl (fun w hw => run_load_int ((ov_B r0B w hw).cellL 3 rfl)) (by rfl) ?_; simp only [Act.put, putS]; go_big_quiet_on) | (go_big_quiet_op; go_big_quiet_on))
    simp only [Act.put, putS]
    refine anyX_take 6 rfl (by kernel_rfl) ⟨_, ov_of hX⟩ ?_
    intro K hK
    try simp only [List.getElem_toArray, List.getElem_cons_zero, List.getElem_cons_succ]
    (first | (refine quiet_loadAny (t := 64) rfl _ _ _ rfl (fun w hw => run_load_B (ov_B r0B w hw) Try.isAgg64 (by kernel_rfl)) (by rfl) ?_; simp only [Act.put, putS]; go_big_quiet_on) | (refine quiet_loadAny (t := 3) rfl _ _ _ rfl (fun w hw => run_load_int ((ov_B r0B w hw).cellL 0 rfl)) (by rfl) ?_; simp only [Act.put, putS]; go_big_quiet_on) | (refine quiet_loadAny (t := 3) rfl _ _ _ rfl (fun w hw => run_load_int ((ov_B r0B w hw).cellL 1 rfl)) (by rfl) ?_; simp only [Act.put, putS]; go_big_quiet_on) | (refine quiet_loadAny (t := 3) rfl _ _ _ rfl (fun w hw => run_load_int ((ov_B r0B w hw).cellL 2 rfl)) (by rfl) ?_; simp only [Act.put, putS]; go_big_quiet_on) | (refine quiet_loadAny (t := 3) rfl _ _ _ rfl (fun w hw => run_load_int ((ov_B r0B w hw).cellL 3 rfl)) (by rfl) ?_; simp only [Act.put, putS]; go_big_quiet_on) | (go_big_quiet_op; go_big_quiet_on))
    simp only [Act.put, putS]
    refine anyX_take 7 rfl (by kernel_rfl) ⟨_, ov_of hX⟩ ?_
    intro K hK
    try simp only [List.getElem_toArray, List.getElem_cons_zero, List.getElem_cons_succ]
    (first | (refine quiet_loadAny (t := 64) rfl _ _ _ rfl (fun w hw => run_load_B (ov_B r0B w hw) Try.isAgg64 (by kernel_rfl)) (by rfl) ?_; simp only [Act.put, putS]; go_big_quiet_on) | (refine quiet_loadAny (t := 3) rfl _ _ _ rfl (fun w hw => run_load_int ((ov_B r0B w hw).cellL 0 rfl)) (by rfl) ?_; simp only [Act.put, putS]; go_big_quiet_on) | (refine quiet_loadAny (t := 3) rfl _ _ _ rfl (fun w hw => run_load_int ((ov_B r0B w hw).cellL 1 rfl)) (by rfl) ?_; simp only [Act.put, putS]; go_big_quiet_on) | (refine quiet_loadAny (t := 3) rfl _ _ _ rfl (fun w hw => run_load_int ((ov_B r0B w hw).cellL 2 rfl)) (by rfl) ?_; simp only [Act.put, putS]; go_big_quiet_on) | (refine quiet_loadAny (t := 3) rfl _ _ _ rfl (fun w hw => run_load_int ((ov_B r0B w hw).cellL 3 rfl)) (by rfl) ?_; simp only [Act.put, putS]; go_big_quiet_on) | (go_big_quiet_op; go_big_quiet_on))
    simp only [Act.put, putS]
    refine anyX_take 8 rfl (by kernel_rfl) ⟨_, ov_of hX⟩ ?_
    intro K hK
    try simp only [List.getElem_toArray, List.getElem_cons_zero, List.getElem_cons_succ]
    (first | (refine quiet_loadAny (t := 64) rfl _ _ _ rfl (fun w hw => run_load_B (ov_B r0B w hw) Try.isAgg64 (by kernel_rfl)) (by rfl) ?_; simp only [Act.put, putS]; go_big_quiet_on) | (refine quiet_loadAny (t := 3) rfl _ _ _ rfl (fun w hw => run_load_int ((ov_B r0B w hw).cellL 0 rfl)) (by rfl) ?_; simp only [Act.put, putS]; go_big_quiet_on) | (refine quiet_loadAny (t := 3) rfl _ _ _ rfl (fun w hw => run_load_int ((ov_B r0B w hw).cellL 1 rfl)) (by rfl) ?_; simp only [Act.put, putS]; go_big_quiet_on) | (refine quiet_loadAny (t := 3) rfl _ _ _ rfl (fun w hw => run_load_int ((ov_B r0B w hw).cellL 2 rfl)) (by rfl) ?_; simp only [Act.put, putS]; go_big_quiet_on) | (refine quiet_loadAny (t := 3) rfl _ _ _ rfl (fun w hw => run_load_int ((ov_B r0B w hw).cellL 3 rfl)) (by rfl) ?_; simp only [Act.put, putS]; go_big_quiet_on) | (go_big_quiet_op; go_big_quiet_on))
    simp only [Act.put, putS]
    refine anyX_take 9 rfl (by kernel_rfl) ⟨_, ov_of hX⟩ ?_
    intro K hK
    try simp only [List.getElem_toArray, List.getElem_cons_zero, List.getElem_cons_succ]
    (first | (refine quiet_loadAny (t := 64) rfl _ _ _ rfl (fun w hw => run_load_B (ov_B r0B w hw) Try.isAgg64 (by kernel_rfl)) (by rfl) ?_; simp only [Act.put, putS]; go_big_quiet_on) | (refine quiet_loadAny (t := 3) rfl _ _ _ rfl (fun w hw => run_load_int ((ov_B r0B w hw).cellL 0 rfl)) (by rfl) ?_; simp only [Act.put, putS]; go_big_quiet_on) | (refine quiet_loadAny (t := 3) rfl _ _ _ rfl (fun w hw => run_load_int ((ov_B r0B w hw).cellL 1 rfl)) (by rfl) ?_; simp only [Act.put, putS]; go_big_quiet_on) | (refine quiet_loadAny (t := 3) rfl _ _ _ rfl (fun w hw => run_load_int ((ov_B r0B w hw).cellL 2 rfl)) (by rfl) ?_; simp only [Act.put, putS]; go_big_quiet_on) | (refine quiet_loadAny (t := 3) rfl _ _ _ rfl (fun w hw => run_load_int ((ov_B r0B w hw).cellL 3 rfl)) (by rfl) ?_; simp only [Act.put, putS]; go_big_quiet_on) | (go_big_quiet_op; go_big_quiet_on))
    simp only [Act.put, putS]
    refine anyX_take 10 rfl (by kernel_rfl) ⟨_, ov_of hX⟩ ?_
    intro K hK
    try simp only [List.getElem_toArray, List.getElem_cons_zero, List.getElem_cons_succ]
    (first | (refine quiet_loadAny (t := 64) rfl _ _ _ rfl (fun w hw => run_load_B (ov_B r0B w hw) Try.isAgg64 (by kernel_rfl)) (by rfl) ?_; simp only [Act.put, putS]; go_big_quiet_on) | (refine quiet_loadAny (t := 3) rfl _ _ _ rfl (fun w hw => run_load_int ((ov_B r0B w hw).cellL 0 rfl)) (by rfl) ?_; simp only [Act.put, putS]; go_big_quiet_on) | (refine quiet_loadAny (t := 3) rfl _ _ _ rfl (fun w hw => run_load_int ((ov_B r0B w hw).cellL 1 rfl)) (by rfl) ?_; simp only [Act.put, putS]; go_big_quiet_on) | (refine quiet_loadAny (t := 3) rfl _ _ _ rfl (fun w hw => run_load_int ((ov_B r0B w hw).cellL 2 rfl)) (by rfl) ?_; simp only [Act.put, putS]; go_big_quiet_on) | (refine quiet_loadAny (t := 3) rfl _ _ _ rfl (fun w hw => run_load_int ((ov_B r0B w hw).cellL 3 rfl)) (by rfl) ?_; simp only [Act.put, putS]; go_big_quiet_on) | (go_big_quiet_op; go_big_quiet_on))
    simp only [Act.put, putS]
    refine anyX_take 11 rfl (by kernel_rfl) ⟨_, ov_of hX⟩ ?_
    intro K hK
    try simp only [List.getElem_toArray, List.getElem_cons_zero, List.getElem_cons_succ]
    (first | (refine quiet_loadAny (t := 64) rfl _ _ _ rfl (fun w hw => run_load_B (ov_B r0B w hw) Try.isAgg64 (by kernel_rfl)) (by rfl) ?_; simp only [Act.put, putS]; go_big_quiet_on) | (refine quiet_loadAny (t := 3) rfl _ _ _ rfl (fun w hw => run_load_int ((ov_B r0B w hw).cellL 0 rfl)) (by rfl) ?_; simp only [Act.put, putS]; go_big_quiet_on) | (refine quiet_loadAny (t := 3) rfl _ _ _ rfl (fun w hw => run_load_int ((ov_B r0B w hw).cellL 1 rfl)) (by rfl) ?_; simp only [Act.put, putS]; go_big_quiet_on) | (refine quiet_loadAny (t := 3) rfl _ _ _ rfl (fun w hw => run_load_int ((ov_B r0B w hw).cellL 2 rfl)) (by rfl) ?_; simp only [Act.put, putS]; go_big_quiet_on) | (refine quiet_loadAny (t := 3) rfl _ _ _ rfl (fun w hw => run_load_int ((ov_B r0B w hw).cellL 3 rfl)) (by rfl) ?_; simp only [Act.put, putS]; go_big_quiet_on) | (go_big_quiet_op; go_big_quiet_on))
    simp only [Act.put, putS]
    refine anyX_take 12 rfl (by kernel_rfl) ⟨_, ov_of hX⟩ ?_
    intro K hK
    try simp only [List.getElem_toArray, List.getElem_cons_zero, List.getElem_cons_succ]
    (first | (refine quiet_loadAny (t := 64) rfl _ _ _ rfl (fun w hw => run_load_B (ov_B r0B w hw) Try.isAgg64 (by kernel_rfl)) (by rfl) ?_; simp only [Act.put, putS]; go_big_quiet_on) | (refine quiet_loadAny (t := 3) rfl _ _ _ rfl (fun w hw => run_load_int ((ov_B r0B w hw).cellL 0 rfl)) (by rfl) ?_; simp only [Act.put, putS]; go_big_quiet_on) | (refine quiet_loadAny (t := 3) rfl _ _ _ rfl (fun w hw => run_load_int ((ov_B r0B w hw).cellL 1 rfl)) (by rfl) ?_; simp only [Act.put, putS]; go_big_quiet_on) | (refine quiet_loadAny (t := 3) rfl _ _ _ rfl (fun w hw => run_load_int ((ov_B r0B w hw).cellL 2 rfl)) (by rfl) ?_; simp only [Act.put, putS]; go_big_quiet_on) | (refine quiet_loadAny (t := 3) rfl _ _ _ rfl (fun w hw => run_load_int ((ov_B r0B w hw).cellL 3 rfl)) (by rfl) ?_; simp only [Act.put, putS]; go_big_quiet_on) | (go_big_quiet_op; go_big_quiet_on))
    simp only [Act.put, putS]
    refine anyX_three 5 14 15 rfl rfl rfl (by kernel_rfl) rfl rfl rfl (fun K hK => ?_) (fun K hK => ?_) (fun K hK => ?_)
    · skip
      try simp only [List.getElem_toArray, List.getElem_cons_zero, List.getElem_cons_succ]
      go_simp
      go_at_call 63
      refine (P_AtO c.x0 c.y0 _ wf1.out wf2.out).mono ?_
      rintro e wn ⟨rfl, hbn⟩
      have hsz := B.size
      have hzn := hbn.size
      have hsx := hX.size
      replace B := B.trans (hbn.mono B.size)
      replace hX := hX.trans (hbn.mono hX.size)
      try first | replace p3 := p3.of_eq (hbn.block _ p3.lt) | replace p3 := p3.below hbn
      try first | replace p4 := p4.of_eq (hbn.block _ p4.lt) | replace p4 := p4.below hbn
      refine hK _ _ ⟨fun _ => ⟨_, ov_of hX⟩, ?_⟩
      clear hK K
      try simp only [List.getElem_toArray, List.getElem_cons_zero, List.getElem_cons_succ]
      simp only [Act.put, putS]
      refine anyX_three 13 14 15 rfl rfl rfl (by kernel_rfl) rfl rfl rfl (fun K hK => ?_) (fun K hK => ?_) (fun K hK => ?_)
      · skip
        try simp only [List.getElem_toArray, List.getElem_cons_zero, List.getElem_cons_succ]
        go_simp
        go_at_call 63
        refine (P_AtO (c.x1 - 1) (c.y1 - 1) _ wf3.out wf4.out).mono ?_
        rintro e wn ⟨rfl, hbn⟩
        have hsz := B.size
        have hzn := hbn.size
        have hsx := hX.size
        replace B := B.trans (hbn.mono B.size)
        replace hX := hX.trans (hbn.mono hX.size)
        try first | replace p3 := p3.of_eq (hbn.block _ p3.lt) | replace p3 := p3.below hbn
        try first | replace p4 := p4.of_eq (hbn.block _ p4.lt) | replace p4 := p4.below hbn
        refine hK _ _ ⟨fun _ => ⟨_, ov_of hX⟩, ?_⟩
        clear hK K
        try simp only [List.getElem_toArray, List.getElem_cons_zero, List.getElem_cons_succ]
        simp only [Act.put, putS]
        refine anyX_two 14 15 rfl rfl (by kernel_rfl) rfl rfl (fun K hK => ?_) (fun K hK => ?_)
        · skip
          try simp only [List.getElem_toArray, List.getElem_cons_zero, List.getElem_cons_succ]
          refine owp_allocBk (t := 24) _ (run_alloc_Ps _ _ rfl) ?_
          intro b_p3 wn hle hge ht hbn hzn
          have hsz := B.size
          have hsx := hX.size
          replace B := B.trans (hbn.mono (by omega))
          replace hX := hX.trans (hbn.mono (by omega))
          try first | (have hlt := p3.lt; replace p3 := p3.of_eq (hbn.block _ (by omega))) | replace p3 := p3.below (hbn.mono hle)
          try first | (have hlt := p4.lt; replace p4 := p4.of_eq (hbn.block _ (by omega))) | replace p4 := p4.below (hbn.mono hle)
          have p3 := ht
          clear ht
          refine hK _ _ ⟨fun _ => ⟨_, ov_of hX⟩, ?_⟩
          clear hK K
          try simp only [List.getElem_toArray, List.getElem_cons_zero, List.getElem_cons_succ]
          simp only [Act.put, putS]
          refine anyX_next 15 rfl (by kernel_rfl) rfl (fun K hK => ?_)
          try simp only [List.getElem_toArray, List.getElem_cons_zero, List.getElem_cons_succ]
          refine owp_allocBk (t := 24) _ (run_alloc_Ps _ _ rfl) ?_
          intro b_p4 wn hle hge ht hbn hzn
          have hsz := B.size
          have hsx := hX.size
          replace B := B.trans (hbn.mono (by omega))
          replace hX := hX.trans (hbn.mono (by omega))
          try first | (have hlt := p3.lt; replace p3 := p3.of_eq (hbn.block _ (by omega))) | replace p3 := p3.below (hbn.mono hle)
          try first | (have hlt := p4.lt; replace p4 := p4.of_eq (hbn.block _ (by omega))) | replace p4 := p4.below (hbn.mono hle)
          have p4 := ht
          clear ht
          refine hK _ _ ⟨fun _ => ⟨_, ov_of hX⟩, ?_⟩
          clear hK K
          try simp only [List.getElem_toArray, List.getElem_cons_zero, List.getElem_cons_succ]
          simp only [Act.put, putS]
          refine anyX_seq (by kernel_rfl) (by kernel_rfl) ?_
          simp only [List.drop_succ_cons, List.drop_zero]
          go_wp2_with (first | (refine wpList_storeB (t := 24) rfl _ _ rfl _ rfl _ rfl p3 (by kernel_rfl) rfl (by simp [Value.oneCell']) ?_; clear p3; intro wn ht hcn hzn; have hsz := B.size; replace hzn := Nat.le_of_eq hzn.symm; replace B := Chg.below B hcn (by omega) B.size; (try replace p4 := p4.of_eq (hcn.block _ p4.lt (by omega))); have p3 := ht; clear ht; simp only [Act.put, putS]) | (refine wpList_storeB (t := 24) rfl _ _ rfl _ rfl _ rfl p4 (by kernel_rfl) rfl (by simp [Value.oneCell']) ?_; clear p4; intro wn ht hcn hzn; have hsz := B.size; replace hzn := Nat.le_of_eq hzn.symm; replace B := Chg.below B hcn (by omega) B.size; (try replace p3 := p3.of_eq (hcn.block _ p3.lt (by omega))); have p4 := ht; clear ht; simp only [Act.put, putS]) | fail)
          refine NoPan.normal ?_
          go_wp2_with fail
          go_meet
          exact ⟨b_p3, b_p4, rfl, rfl, B, by omega, by omega, p3, p4⟩
        · skip
          try simp only [List.getElem_toArray, List.getElem_cons_zero, List.getElem_cons_succ]
          refine owp_allocBk (t := 24) _ (run_alloc_Ps _ _ rfl) ?_
          intro b_p4 wn hle hge ht hbn hzn
          have hsz := B.size
          have hsx := hX.size
          replace B := B.trans (hbn.mono (by omega))
          replace hX := hX.trans (hbn.mono (by omega))
          try first | (have hlt := p3.lt; replace p3 := p3.of_eq (hbn.block _ (by omega))) | replace p3 := p3.below (hbn.mono hle)
          try first | (have hlt := p4.lt; replace p4 := p4.of_eq (hbn.block _ (by omega))) | replace p4 := p4.below (hbn.mono hle)
          have p4 := ht
          clear ht
          refine hK _ _ ⟨fun _ => ⟨_, ov_of hX⟩, ?_⟩
          clear hK K
          try simp only [List.getElem_toArray, List.getElem_cons_zero, List.getElem_cons_succ]
          simp only [Act.put, putS]
          refine anyX_next 14 rfl (by kernel_rfl) rfl (fun K hK => ?_)
          try simp only [List.getElem_toArray, List.getElem_cons_zero, List.getElem_cons_succ]
          refine owp_allocBk (t := 24) _ (run_alloc_Ps _ _ rfl) ?_
          intro b_p3 wn hle hge ht hbn hzn
          have hsz := B.size
          have hsx := hX.size
          replace B := B.trans (hbn.mono (by omega))
          replace hX := hX.trans (hbn.mono (by omega))
          try first | (have hlt := p3.lt; replace p3 := p3.of_eq (hbn.block _ (by omega))) | replace p3 := p3.below (hbn.mono hle)
          try first | (have hlt := p4.lt; replace p4 := p4.of_eq (hbn.block _ (by omega))) | replace p4 := p4.below (hbn.mono hle)
          have p3 := ht
          clear ht
          refine hK _ _ ⟨fun _ => ⟨_, ov_of hX⟩, ?_⟩
          clear hK K
          try simp only [List.getElem_toArray, List.getElem_cons_zero, List.getElem_cons_succ]
          simp only [Act.put, putS]
          refine anyX_seq (by kernel_rfl) (by kernel_rfl) ?_
          simp only [List.drop_succ_cons, List.drop_zero]
          go_wp2_with (first | (refine wpList_storeB (t := 24) rfl _ _ rfl _ rfl _ rfl p3 (by kernel_rfl) rfl (by simp [Value.oneCell']) ?_; clear p3; intro wn ht hcn hzn; have hsz := B.size; replace hzn := Nat.le_of_eq hzn.symm; replace B := Chg.below B hcn (by omega) B.size; (try replace p4 := p4.of_eq (hcn.block _ p4.lt (by omega))); have p3 := ht; clear ht; simp only [Act.put, putS]) | (refine wpList_storeB (t := 24) rfl _ _ rfl _ rfl _ rfl p4 (by kernel_rfl) rfl (by simp [Value.oneCell']) ?_; clear p4; intro wn ht hcn hzn; have hsz := B.size; replace hzn := Nat.le_of_eq hzn.symm; replace B := Chg.below B hcn (by omega) B.size; (try replace p3 := p3.of_eq (hcn.block _ p3.lt (by omega))); have p4 := ht; clear ht; simp only [Act.put, putS]) | fail)
          refine NoPan.normal ?_
          go_wp2_with fail
          go_meet
          exact ⟨b_p3, b_p4, rfl, rfl, B, by omega, by omega, p3, p4⟩
      · skip
        try simp only [List.getElem_toArray, List.getElem_cons_zero, List.getElem_cons_succ]
        refine owp_allocBk (t := 24) _ (run_alloc_Ps _ _ rfl) ?_
        intro b_p3 wn hle hge ht hbn hzn
        have hsz := B.size
        have hsx := hX.size
        replace B := B.trans (hbn.mono (by omega))
        replace hX := hX.trans (hbn.mono (by omega))
        try first | (have hlt := p3.lt; replace p3 := p3.of_eq (hbn.block _ (by omega))) | replace p3 := p3.below (hbn.mono hle)
        try first | (have hlt := p4.lt; replace p4 := p4.of_eq (hbn.block _ (by omega))) | replace p4 := p4.below (hbn.mono hle)
        have p3 := ht
        clear ht
        refine hK _ _ ⟨fun _ => ⟨_, ov_of hX⟩, ?_⟩
        clear hK K
        try simp only [List.getElem_toArray, List.getElem_cons_zero, List.getElem_cons_succ]
        simp only [Act.put, putS]
        refine anyX_two 13 15 rfl rfl (by kernel_rfl) rfl rfl (fun K hK => ?_) (fun K hK => ?_)
        · skip
          try simp only [List.getElem_toArray, List.getElem_cons_zero, List.getElem_cons_succ]
          go_simp
          go_at_call 63
          refine (P_AtO (c.x1 - 1) (c.y1 - 1) _ wf3.out wf4.out).mono ?_
          rintro e wn ⟨rfl, hbn⟩
          have hsz := B.size
          have hzn := hbn.size
          have hsx := hX.size
          replace B := B.trans (hbn.mono B.size)
          replace hX := hX.trans (hbn.mono hX.size)
          try first | replace p3 := p3.of_eq (hbn.block _ p3.lt) | replace p3 := p3.below hbn
          try first | replace p4 := p4.of_eq (hbn.block _ p4.lt) | replace p4 := p4.below hbn
          refine hK _ _ ⟨fun _ => ⟨_, ov_of hX⟩, ?_⟩
          clear hK K
          try simp only [List.getElem_toArray, List.getElem_cons_zero, List.getElem_cons_succ]
          simp only [Act.put, putS]
          refine anyX_next 15 rfl (by kernel_rfl) rfl (fun K hK => ?_)
          try simp only [List.getElem_toArray, List.getElem_cons_zero, List.getElem_cons_succ]
          refine owp_allocBk (t := 24) _ (run_alloc_Ps _ _ rfl) ?_
          intro b_p4 wn hle hge ht hbn hzn
          have hsz := B.size
          have hsx := hX.size
          replace B := B.trans (hbn.mono (by omega))
          replace hX := hX.trans (hbn.mono (by omega))
          try first | (have hlt := p3.lt; replace p3 := p3.of_eq (hbn.block _ (by omega))) | replace p3 := p3.below (hbn.mono hle)
          try first | (have hlt := p4.lt; replace p4 := p4.of_eq (hbn.block _ (by omega))) | replace p4 := p4.below (hbn.mono hle)
          have p4 := ht
          clear ht
          refine hK _ _ ⟨fun _ => ⟨_, ov_of hX⟩, ?_⟩
          clear hK K
          try simp only [List.getElem_toArray, List.getElem_cons_zero, List.getElem_cons_succ]
          simp only [Act.put, putS]
          refine anyX_seq (by kernel_rfl) (by kernel_rfl) ?_
          simp only [List.drop_succ_cons, List.drop_zero]
          go_wp2_with (first | (refine wpList_storeB (t := 24) rfl _ _ rfl _ rfl _ rfl p3 (by kernel_rfl) rfl (by simp [Value.oneCell']) ?_; clear p3; intro wn ht hcn hzn; have hsz := B.size; replace hzn := Nat.le_of_eq hzn.symm; replace B := Chg.below B hcn (by omega) B.size; (try replace p4 := p4.of_eq (hcn.block _ p4.lt (by omega))); have p3 := ht; clear ht; simp only [Act.put, putS]) | (refine wpList_storeB (t := 24) rfl _ _ rfl _ rfl _ rfl p4 (by kernel_rfl) rfl (by simp [Value.oneCell']) ?_; clear p4; intro wn ht hcn hzn; have hsz := B.size; replace hzn := Nat.le_of_eq hzn.symm; replace B := Chg.below B hcn (by omega) B.size; (try replace p3 := p3.of_eq (hcn.block _ p3.lt (by omega))); have p4 := ht; clear ht; simp only [Act.put, putS]) | fail)
          refine NoPan.normal ?_
          go_wp2_with fail
          go_meet
          exact ⟨b_p3, b_p4, rfl, rfl, B, by omega, by omega, p3, p4⟩
        · skip
          try simp only [List.getElem_toArray, List.getElem_cons_zero, List.getElem_cons_succ]
          refine owp_allocBk (t := 24) _ (run_alloc_Ps _ _ rfl) ?_
          intro b_p4 wn hle hge ht hbn hzn
          have hsz := B.size
          have hsx := hX.size
          replace B := B.trans (hbn.mono (by omega))
          replace hX := hX.trans (hbn.mono (by omega))
          try first | (have hlt := p3.lt; replace p3 := p3.of_eq (hbn.block _ (by omega))) | replace p3 := p3.below (hbn.mono hle)
          try first | (have hlt := p4.lt; replace p4 := p4.of_eq (hbn.block _ (by omega))) | replace p4 := p4.below (hbn.mono hle)
          have p4 := ht
          clear ht
          refine hK _ _ ⟨fun _ => ⟨_, ov_of hX⟩, ?_⟩
          clear hK K
          try simp only [List.getElem_toArray, List.getElem_cons_zero, List.getElem_cons_succ]
          simp only [Act.put, putS]
          refine anyX_next 13 rfl (by kernel_rfl) rfl (fun K hK => ?_)
          try simp only [List.getElem_toArray, List.getElem_cons_zero, List.getElem_cons_succ]
          go_simp
          go_at_call 63
          refine (P_AtO (c.x1 - 1) (c.y1 - 1) _ wf3.out wf4.out).mono ?_
          rintro e wn ⟨rfl, hbn⟩
          have hsz := B.size
          have hzn := hbn.size
          have hsx := hX.size
          replace B := B.trans (hbn.mono B.size)
          replace hX := hX.trans (hbn.mono hX.size)
          try first | replace p3 := p3.of_eq (hbn.block _ p3.lt) | replace p3 := p3.below hbn
          try first | replace p4 := p4.of_eq (hbn.block _ p4.lt) | replace p4 := p4.below hbn
          refine hK _ _ ⟨fun _ => ⟨_, ov_of hX⟩, ?_⟩
          clear hK K
          try simp only [List.getElem_toArray, List.getElem_cons_zero, List.getElem_cons_succ]
          simp only [Act.put, putS]
          refine anyX_seq (by kernel_rfl) (by kernel_rfl) ?_
          simp only [List.drop_succ_cons, List.drop_zero]
          go_wp2_with (first | (refine wpList_storeB (t := 24) rfl _ _ rfl _ rfl _ rfl p3 (by kernel_rfl) rfl (by simp [Value.oneCell']) ?_; clear p3; intro wn ht hcn hzn; have hsz := B.size; replace hzn := Nat.le_of_eq hzn.symm; replace B := Chg.below B hcn (by omega) B.size; (try replace p4 := p4.of_eq (hcn.block _ p4.lt (by omega))); have p3 := ht; clear ht; simp only [Act.put, putS]) | (refine wpList_storeB (t := 24) rfl _ _ rfl _ rfl _ rfl p4 (by kernel_rfl) rfl (by simp [Value.oneCell']) ?_; clear p4; intro wn ht hcn hzn; have hsz := B.size; replace hzn := Nat.le_of_eq hzn.symm; replace B := Chg.below B hcn (by omega) B.size; (try replace p3 := p3.of_eq (hcn.block _ p3.lt (by omega))); have p4 := ht; clear ht; simp only [Act.put, putS]) | fail)
          refine NoPan.normal ?_
          go_wp2_with fail
          go_meet
          exact ⟨b_p3, b_p4, rfl, rfl, B, by omega, by omega, p3, p4⟩
      · skip
        try simp only [List.getElem_toArray, List.getElem_cons_zero, List.getElem_cons_succ]
        refine owp_allocBk (t := 24) _ (run_alloc_Ps _ _ rfl) ?_
        intro b_p4 wn hle hge ht hbn hzn
        have hsz := B.size
        have hsx := hX.size
        replace B := B.trans (hbn.mono (by omega))
        replace hX := hX.trans (hbn.mono (by omega))
        try first | (have hlt := p3.lt; replace p3 := p3.of_eq (hbn.block _ (by omega))) | replace p3 := p3.below (hbn.mono hle)
        try first | (have hlt := p4.lt; replace p4 := p4.of_eq (hbn.block _ (by omega))) | replace p4 := p4.below (hbn.mono hle)
        have p4 := ht
        clear ht
        refine hK _ _ ⟨fun _ => ⟨_, ov_of hX⟩, ?_⟩
        clear hK K
        try simp only [List.getElem_toArray, List.getElem_cons_zero, List.getElem_cons_succ]
        simp only [Act.put, putS]
        refine anyX_two 13 14 rfl rfl (by kernel_rfl) rfl rfl (fun K hK => ?_) (fun K hK => ?_)
        · skip
          try simp only [List.getElem_toArray, List.getElem_cons_zero, List.getElem_cons_succ]
          go_simp
          go_at_call 63
          refine (P_AtO (c.x1 - 1) (c.y1 - 1) _ wf3.out wf4.out).mono ?_
          rintro e wn ⟨rfl, hbn⟩
          have hsz := B.size
          have hzn := hbn.size
          have hsx := hX.size
          replace B := B.trans (hbn.mono B.size)
          replace hX := hX.trans (hbn.mono hX.size)
          try first | replace p3 := p3.of_eq (hbn.block _ p3.lt) | replace p3 := p3.below hbn
          try first | replace p4 := p4.of_eq (hbn.block _ p4.lt) | replace p4 := p4.below hbn
          refine hK _ _ ⟨fun _ => ⟨_, ov_of hX⟩, ?_⟩
          clear hK K
          try simp only [List.getElem_toArray, List.getElem_cons_zero, List.getElem_cons_succ]
          simp only [Act.put, putS]
          refine anyX_next 14 rfl (by kernel_rfl) rfl (fun K hK => ?_)
          try simp only [List.getElem_toArray, List.getElem_cons_zero, List.getElem_cons_succ]
          refine owp_allocBk (t := 24) _ (run_alloc_Ps _ _ rfl) ?_
          intro b_p3 wn hle hge ht hbn hzn
          have hsz := B.size
          have hsx := hX.size
          replace B := B.trans (hbn.mono (by omega))
          replace hX := hX.trans (hbn.mono (by omega))
          try first | (have hlt := p3.lt; replace p3 := p3.of_eq (hbn.block _ (by omega))) | replace p3 := p3.below (hbn.mono hle)
          try first | (have hlt := p4.lt; replace p4 := p4.of_eq (hbn.block _ (by omega))) | replace p4 := p4.below (hbn.mono hle)
          have p3 := ht
          clear ht
          refine hK _ _ ⟨fun _ => ⟨_, ov_of hX⟩, ?_⟩
          clear hK K
          try simp only [List.getElem_toArray, List.getElem_cons_zero, List.getElem_cons_succ]
          simp only [Act.put, putS]
          refine anyX_seq (by kernel_rfl) (by kernel_rfl) ?_
          simp only [List.drop_succ_cons, List.drop_zero]
          go_wp2_with (first | (refine wpList_storeB (t := 24) rfl _ _ rfl _ rfl _ rfl p3 (by kernel_rfl) rfl (by simp [Value.oneCell']) ?_; clear p3; intro wn ht hcn hzn; have hsz := B.size; replace hzn := Nat.le_of_eq hzn.symm; replace B := Chg.below B hcn (by omega) B.size; (try replace p4 := p4.of_eq (hcn.block _ p4.lt (by omega))); have p3 := ht; clear ht; simp only [Act.put, putS]) | (refine wpList_storeB (t := 24) rfl _ _ rfl _ rfl _ rfl p4 (by kernel_rfl) rfl (by simp [Value.oneCell']) ?_; clear p4; intro wn ht hcn hzn; have hsz := B.size; replace hzn := Nat.le_of_eq hzn.symm; replace B := Chg.below B hcn (by omega) B.size; (try replace p3 := p3.of_eq (hcn.block _ p3.lt (by omega))); have p4 := ht; clear ht; simp only [Act.put, putS]) | fail)
          refine NoPan.normal ?_
          go_wp2_with fail
          go_meet
          exact ⟨b_p3, b_p4, rfl, rfl, B, by omega, by omega, p3, p4⟩
        · skip
          try simp only [List.getElem_toArray, List.getElem_cons_zero, List.getElem_cons_succ]
          refine owp_allocBk (t := 24) _ (run_alloc_Ps _ _ rfl) ?_
          intro b_p3 wn hle hge ht hbn hzn
          have hsz := B.size
          have hsx := hX.size
          replace B := B.trans (hbn.mono (by omega))
          replace hX := hX.trans (hbn.mono (by omega))
          try first | (have hlt := p3.lt; replace p3 := p3.of_eq (hbn.block _ (by omega))) | replace p3 := p3.below (hbn.mono hle)
          try first | (have hlt := p4.lt; replace p4 := p4.of_eq (hbn.block _ (by omega))) | replace p4 := p4.below (hbn.mono hle)
          have p3 := ht
          clear ht
          refine hK _ _ ⟨fun _ => ⟨_, ov_of hX⟩, ?_⟩
          clear hK K
          try simp only [List.getElem_toArray, List.getElem_cons_zero, List.getElem_cons_succ]
          simp only [Act.put, putS]
          refine anyX_next 13 rfl (by kernel_rfl) rfl (fun K hK => ?_)
          try simp only [List.getElem_toArray, List.getElem_cons_zero, List.getElem_cons_succ]
          go_simp
          go_at_call 63
          refine (P_AtO (c.x1 - 1) (c.y1 - 1) _ wf3.out wf4.out).mono ?_
          rintro e wn ⟨rfl, hbn⟩
          have hsz := B.size
          have hzn := hbn.size
          have hsx := hX.size
          replace B := B.trans (hbn.mono B.size)
          replace hX := hX.trans (hbn.mono hX.size)
          try first | replace p3 := p3.of_eq (hbn.block _ p3.lt) | replace p3 := p3.below hbn
          try first | replace p4 := p4.of_eq (hbn.block _ p4.lt) | replace p4 := p4.below hbn
          refine hK _ _ ⟨fun _ => ⟨_, ov_of hX⟩, ?_⟩
          clear hK K
          try simp only [List.getElem_toArray, List.getElem_cons_zero, List.getElem_cons_succ]
          simp only [Act.put, putS]
          refine anyX_seq (by kernel_rfl) (by kernel_rfl) ?_
          simp only [List.drop_succ_cons, List.drop_zero]
          go_wp2_with (first | (refine wpList_storeB (t := 24) rfl _ _ rfl _ rfl _ rfl p3 (by kernel_rfl) rfl (by simp [Value.oneCell']) ?_; clear p3; intro wn ht hcn hzn; have hsz := B.size; replace hzn := Nat.le_of_eq hzn.symm; replace B := Chg.below B hcn (by omega) B.size; (try replace p4 := p4.of_eq (hcn.block _ p4.lt (by omega))); have p3 := ht; clear ht; simp only [Act.put, putS]) | (refine wpList_storeB (t := 24) rfl _ _ rfl _ rfl _ rfl p4 (by kernel_rfl) rfl (by simp [Value.oneCell']) ?_; clear p4; intro wn ht hcn hzn; have hsz := B.size; replace hzn := Nat.le_of_eq hzn.symm; replace B := Chg.below B hcn (by omega) B.size; (try replace p3 := p3.of_eq (hcn.block _ p3.lt (by omega))); have p4 := ht; clear ht; simp only [Act.put, putS]) | fail)
          refine NoPan.normal ?_
          go_wp2_with fail
          go_meet
          exact ⟨b_p3, b_p4, rfl, rfl, B, by omega, by omega, p3, p4⟩
    · skip
      try simp only [List.getElem_toArray, List.getElem_cons_zero, List.getElem_cons_succ]
      refine owp_allocBk (t := 24) _ (run_alloc_Ps _ _ rfl) ?_
      intro b_p3 wn hle hge ht hbn hzn
      have hsz := B.size
      have hsx := hX.size
      replace B := B.trans (hbn.mono (by omega))
      replace hX := hX.trans (hbn.mono (by omega))
      try first | (have hlt := p3.lt; replace p3 := p3.of_eq (hbn.block _ (by omega))) | replace p3 := p3.below (hbn.mono hle)
      try first | (have hlt := p4.lt; replace p4 := p4.of_eq (hbn.block _ (by omega))) | replace p4 := p4.below (hbn.mono hle)
      have p3 := ht
      clear ht
      refine hK _ _ ⟨fun _ => ⟨_, ov_of hX⟩, ?_⟩
      clear hK K
      try simp only [List.getElem_toArray, List.getElem_cons_zero, List.getElem_cons_succ]
      simp only [Act.put, putS]
      refine anyX_two 5 15 rfl rfl (by kernel_rfl) rfl rfl (fun K hK => ?_) (fun K hK => ?_)
      · skip
        try simp only [List.getElem_toArray, List.getElem_cons_zero, List.getElem_cons_succ]
        go_simp
        go_at_call 63
        refine (P_AtO c.x0 c.y0 _ wf1.out wf2.out).mono ?_
        rintro e wn ⟨rfl, hbn⟩
        have hsz := B.size
        have hzn := hbn.size
        have hsx := hX.size
        replace B := B.trans (hbn.mono B.size)
        replace hX := hX.trans (hbn.mono hX.size)
        try first | replace p3 := p3.of_eq (hbn.block _ p3.lt) | replace p3 := p3.below hbn
        try first | replace p4 := p4.of_eq (hbn.block _ p4.lt) | replace p4 := p4.below hbn
        refine hK _ _ ⟨fun _ => ⟨_, ov_of hX⟩, ?_⟩
        clear hK K
        try simp only [List.getElem_toArray, List.getElem_cons_zero, List.getElem_cons_succ]
        simp only [Act.put, putS]
        refine anyX_two 13 15 rfl rfl (by kernel_rfl) rfl rfl (fun K hK => ?_) (fun K hK => ?_)
        · skip
          try simp only [List.getElem_toArray, List.getElem_cons_zero, List.getElem_cons_succ]
          go_simp
          go_at_call 63
          refine (P_AtO (c.x1 - 1) (c.y1 - 1) _ wf3.out wf4.out).mono ?_
          rintro e wn ⟨rfl, hbn⟩
          have hsz := B.size
          have hzn := hbn.size
          have hsx := hX.size
          replace B := B.trans (hbn.mono B.size)
          replace hX := hX.trans (hbn.mono hX.size)
          try first | replace p3 := p3.of_eq (hbn.block _ p3.lt) | replace p3 := p3.below hbn
          try first | replace p4 := p4.of_eq (hbn.block _ p4.lt) | replace p4 := p4.below hbn
          refine hK _ _ ⟨fun _ => ⟨_, ov_of hX⟩, ?_⟩
          clear hK K
          try simp only [List.getElem_toArray, List.getElem_cons_zero, List.getElem_cons_succ]
          simp only [Act.put, putS]
          refine anyX_next 15 rfl (by kernel_rfl) rfl (fun K hK => ?_)
          try simp only [List.getElem_toArray, List.getElem_cons_zero, List.getElem_cons_succ]
          refine owp_allocBk (t := 24) _ (run_alloc_Ps _ _ rfl) ?_
          intro b_p4 wn hle hge ht hbn hzn
          have hsz := B.size
          have hsx := hX.size
          replace B := B.trans (hbn.mono (by omega))
          replace hX := hX.trans (hbn.mono (by omega))
          try first | (have hlt := p3.lt; replace p3 := p3.of_eq (hbn.block _ (by omega))) | replace p3 := p3.below (hbn.mono hle)
          try first | (have hlt := p4.lt; replace p4 := p4.of_eq (hbn.block _ (by omega))) | replace p4 := p4.below (hbn.mono hle)
          have p4 := ht
          clear ht
          refine hK _ _ ⟨fun _ => ⟨_, ov_of hX⟩, ?_⟩
          clear hK K
          try simp only [List.getElem_toArray, List.getElem_cons_zero, List.getElem_cons_succ]
          simp only [Act.put, putS]
          refine anyX_seq (by kernel_rfl) (by kernel_rfl) ?_
          simp only [List.drop_succ_cons, List.drop_zero]
          go_wp2_with (first | (refine wpList_storeB (t := 24) rfl _ _ rfl _ rfl _ rfl p3 (by kernel_rfl) rfl (by simp [Value.oneCell']) ?_; clear p3; intro wn ht hcn hzn; have hsz := B.size; replace hzn := Nat.le_of_eq hzn.symm; replace B := Chg.below B hcn (by omega) B.size; (try replace p4 := p4.of_eq (hcn.block _ p4.lt (by omega))); have p3 := ht; clear ht; simp only [Act.put, putS]) | (refine wpList_storeB (t := 24) rfl _ _ rfl _ rfl _ rfl p4 (by kernel_rfl) rfl (by simp [Value.oneCell']) ?_; clear p4; intro wn ht hcn hzn; have hsz := B.size; replace hzn := Nat.le_of_eq hzn.symm; replace B := Chg.below B hcn (by omega) B.size; (try replace p3 := p3.of_eq (hcn.block _ p3.lt (by omega))); have p4 := ht; clear ht; simp only [Act.put, putS]) | fail)
          refine NoPan.normal ?_
          go_wp2_with fail
          go_meet
          exact ⟨b_p3, b_p4, rfl, rfl, B, by omega, by omega, p3, p4⟩
        · skip
          try simp only [List.getElem_toArray, List.getElem_cons_zero, List.getElem_cons_succ]
          refine owp_allocBk (t := 24) _ (run_alloc_Ps _ _ rfl) ?_
          intro b_p4 wn hle hge ht hbn hzn
          have hsz := B.size
          have hsx := hX.size
          replace B := B.trans (hbn.mono (by omega))
          replace hX := hX.trans (hbn.mono (by omega))
          try first | (have hlt := p3.lt; replace p3 := p3.of_eq (hbn.block _ (by omega))) | replace p3 := p3.below (hbn.mono hle)
          try first | (have hlt := p4.lt; replace p4 := p4.of_eq (hbn.block _ (by omega))) | replace p4 := p4.below (hbn.mono hle)
          have p4 := ht
          clear ht
          refine hK _ _ ⟨fun _ => ⟨_, ov_of hX⟩, ?_⟩
          clear hK K
          try simp only [List.getElem_toArray, List.getElem_cons_zero, List.getElem_cons_succ]
          simp only [Act.put, putS]
          refine anyX_next 13 rfl (by kernel_rfl) rfl (fun K hK => ?_)
          try simp only [List.getElem_toArray, List.getElem_cons_zero, List.getElem_cons_succ]
          go_simp
          go_at_call 63
          refine (P_AtO (c.x1 - 1) (c.y1 - 1) _ wf3.out wf4.out).mono ?_
          rintro e wn ⟨rfl, hbn⟩
          have hsz := B.size
          have hzn := hbn.size
          have hsx := hX.size
          replace B := B.trans (hbn.mono B.size)
          replace hX := hX.trans (hbn.mono hX.size)
          try first | replace p3 := p3.of_eq (hbn.block _ p3.lt) | replace p3 := p3.below hbn
          try first | replace p4 := p4.of_eq (hbn.block _ p4.lt) | replace p4 := p4.below hbn
          refine hK _ _ ⟨fun _ => ⟨_, ov_of hX⟩, ?_⟩
          clear hK K
          try simp only [List.getElem_toArray, List.getElem_cons_zero, List.getElem_cons_succ]
          simp only [Act.put, putS]
          refine anyX_seq (by kernel_rfl) (by kernel_rfl) ?_
          simp only [List.drop_succ_cons, List.drop_zero]
          go_wp2_with (first | (refine wpList_storeB (t := 24) rfl _ _ rfl _ rfl _ rfl p3 (by kernel_rfl) rfl (by simp [Value.oneCell']) ?_; clear p3; intro wn ht hcn hzn; have hsz := B.size; replace hzn := Nat.le_of_eq hzn.symm; replace B := Chg.below B hcn (by omega) B.size; (try replace p4 := p4.of_eq (hcn.block _ p4.lt (by omega))); have p3 := ht; clear ht; simp only [Act.put, putS]) | (refine wpList_storeB (t := 24) rfl _ _ rfl _ rfl _ rfl p4 (by kernel_rfl) rfl (by simp [Value.oneCell']) ?_; clear p4; intro wn ht hcn hzn; have hsz := B.size; replace hzn := Nat.le_of_eq hzn.symm; replace B := Chg.below B hcn (by omega) B.size; (try replace p3 := p3.of_eq (hcn.block _ p3.lt (by omega))); have p4 := ht; clear ht; simp only [Act.put, putS]) | fail)
          refine NoPan.normal ?_
          go_wp2_with fail
          go_meet
          exact ⟨b_p3, b_p4, rfl, rfl, B, by omega, by omega, p3, p4⟩
      · skip
        try simp only [List.getElem_toArray, List.getElem_cons_zero, List.getElem_cons_succ]
        refine owp_allocBk (t := 24) _ (run_alloc_Ps _ _ rfl) ?_
        intro b_p4 wn hle hge ht hbn hzn
        have hsz := B.size
        have hsx := hX.size
        replace B := B.trans (hbn.mono (by omega))
        replace hX := hX.trans (hbn.mono (by omega))
        try first | (have hlt := p3.lt; replace p3 := p3.of_eq (hbn.block _ (by omega))) | replace p3 := p3.below (hbn.mono hle)
        try first | (have hlt := p4.lt; replace p4 := p4.of_eq (hbn.block _ (by omega))) | replace p4 := p4.below (hbn.mono hle)
        have p4 := ht
        clear ht
        refine hK _ _ ⟨fun _ => ⟨_, ov_of hX⟩, ?_⟩
        clear hK K
        try simp only [List.getElem_toArray, List.getElem_cons_zero, List.getElem_cons_succ]
        simp only [Act.put, putS]
        refine anyX_next 5 rfl (by kernel_rfl) rfl (fun K hK => ?_)
        try simp only [List.getElem_toArray, List.getElem_cons_zero, List.getElem_cons_succ]
        go_simp
        go_at_call 63
        refine (P_AtO c.x0 c.y0 _ wf1.out wf2.out).mono ?_
        rintro e wn ⟨rfl, hbn⟩
        have hsz := B.size
        have hzn := hbn.size
        have hsx := hX.size
        replace B := B.trans (hbn.mono B.size)
        replace hX := hX.trans (hbn.mono hX.size)
        try first | replace p3 := p3.of_eq (hbn.block _ p3.lt) | replace p3 := p3.below hbn
        try first | replace p4 := p4.of_eq (hbn.block _ p4.lt) | replace p4 := p4.below hbn
        refine hK _ _ ⟨fun _ => ⟨_, ov_of hX⟩, ?_⟩
        clear hK K
        try simp only [List.getElem_toArray, List.getElem_cons_zero, List.getElem_cons_succ]
        simp only [Act.put, putS]
        refine anyX_next 13 rfl (by kernel_rfl) rfl (fun K hK => ?_)
        try simp only [List.getElem_toArray, List.getElem_cons_zero, List.getElem_cons_succ]
        go_simp
        go_at_call 63
        refine (P_AtO (c.x1 - 1) (c.y1 - 1) _ wf3.out wf4.out).mono ?_
        rintro e wn ⟨rfl, hbn⟩
        have hsz := B.size
        have hzn := hbn.size
        have hsx := hX.size
        replace B := B.trans (hbn.mono B.size)
        replace hX := hX.trans (hbn.mono hX.size)
        try first | replace p3 := p3.of_eq (hbn.block _ p3.lt) | replace p3 := p3.below hbn
        try first | replace p4 := p4.of_eq (hbn.block _ p4.lt) | replace p4 := p4.below hbn
        refine hK _ _ ⟨fun _ => ⟨_, ov_of hX⟩, ?_⟩
        clear hK K
        try simp only [List.getElem_toArray, List.getElem_cons_zero, List.getElem_cons_succ]
        simp only [Act.put, putS]
        refine anyX_seq (by kernel_rfl) (by kernel_rfl) ?_
        simp only [List.drop_succ_cons, List.drop_zero]
        go_wp2_with (first | (refine wpList_storeB (t := 24) rfl _ _ rfl _ rfl _ rfl p3 (by kernel_rfl) rfl (by simp [Value.oneCell']) ?_; clear p3; intro wn ht hcn hzn; have hsz := B.size; replace hzn := Nat.le_of_eq hzn.symm; replace B := Chg.below B hcn (by omega) B.size; (try replace p4 := p4.of_eq (hcn.block _ p4.lt (by omega))); have p3 := ht; clear ht; simp only [Act.put, putS]) | (refine wpList_storeB (t := 24) rfl _ _ rfl _ rfl _ rfl p4 (by kernel_rfl) rfl (by simp [Value.oneCell']) ?_; clear p4; intro wn ht hcn hzn; have hsz := B.size; replace hzn := Nat.le_of_eq hzn.symm; replace B := Chg.below B hcn (by omega) B.size; (try replace p3 := p3.of_eq (hcn.block _ p3.lt (by omega))); have p4 := ht; clear ht; simp only [Act.put, putS]) | fail)
        refine NoPan.normal ?_
        go_wp2_with fail
        go_meet
        exact ⟨b_p3, b_p4, rfl, rfl, B, by omega, by omega, p3, p4⟩
    · skip
      try simp only [List.getElem_toArray, List.getElem_cons_zero, List.getElem_cons_succ]
      refine owp_allocBk (t := 24) _ (run_alloc_Ps _ _ rfl) ?_
      intro b_p4 wn hle hge ht hbn hzn
      have hsz := B.size
      have hsx := hX.size
      replace B := B.trans (hbn.mono (by omega))
      replace hX := hX.trans (hbn.mono (by omega))
      try first | (have hlt := p3.lt; replace p3 := p3.of_eq (hbn.block _ (by omega))) | replace p3 := p3.below (hbn.mono hle)
      try first | (have hlt := p4.lt; replace p4 := p4.of_eq (hbn.block _ (by omega))) | replace p4 := p4.below (hbn.mono hle)
      have p4 := ht
      clear ht
      refine hK _ _ ⟨fun _ => ⟨_, ov_of hX⟩, ?_⟩
      clear hK K
      try simp only [List.getElem_toArray, List.getElem_cons_zero, List.getElem_cons_succ]
      simp only [Act.put, putS]
      refine anyX_two 5 14 rfl rfl (by kernel_rfl) rfl rfl (fun K hK => ?_) (fun K hK => ?_)
      · skip
        try simp only [List.getElem_toArray, List.getElem_cons_zero, List.getElem_cons_succ]
        go_simp
        go_at_call 63
        refine (P_AtO c.x0 c.y0 _ wf1.out wf2.out).mono ?_
        rintro e wn ⟨rfl, hbn⟩
        have hsz := B.size
        have hzn := hbn.size
        have hsx := hX.size
        replace B := B.trans (hbn.mono B.size)
        replace hX := hX.trans (hbn.mono hX.size)
        try first | replace p3 := p3.of_eq (hbn.block _ p3.lt) | replace p3 := p3.below hbn
        try first | replace p4 := p4.of_eq (hbn.block _ p4.lt) | replace p4 := p4.below hbn
        refine hK _ _ ⟨fun _ => ⟨_, ov_of hX⟩, ?_⟩
        clear hK K
        try simp only [List.getElem_toArray, List.getElem_cons_zero, List.getElem_cons_succ]
        simp only [Act.put, putS]
        refine anyX_two 13 14 rfl rfl (by kernel_rfl) rfl rfl (fun K hK => ?_) (fun K hK => ?_)
        · skip
          try simp only [List.getElem_toArray, List.getElem_cons_zero, List.getElem_cons_succ]
          go_simp
          go_at_call 63
          refine (P_AtO (c.x1 - 1) (c.y1 - 1) _ wf3.out wf4.out).mono ?_
          rintro e wn ⟨rfl, hbn⟩
          have hsz := B.size
          have hzn := hbn.size
          have hsx := hX.size
          replace B := B.trans (hbn.mono B.size)
          replace hX := hX.trans (hbn.mono hX.size)
          try first | replace p3 := p3.of_eq (hbn.block _ p3.lt) | replace p3 := p3.below hbn
          try first | replace p4 := p4.of_eq (hbn.block _ p4.lt) | replace p4 := p4.below hbn
          refine hK _ _ ⟨fun _ => ⟨_, ov_of hX⟩, ?_⟩
          clear hK K
          try simp only [List.getElem_toArray, List.getElem_cons_zero, List.getElem_cons_succ]
          simp only [Act.put, putS]
          refine anyX_next 14 rfl (by kernel_rfl) rfl (fun K hK => ?_)
          try simp only [List.getElem_toArray, List.getElem_cons_zero, List.getElem_cons_succ]
          refine owp_allocBk (t := 24) _ (run_alloc_Ps _ _ rfl) ?_
          intro b_p3 wn hle hge ht hbn hzn
          have hsz := B.size
          have hsx := hX.size
          replace B := B.trans (hbn.mono (by omega))
          replace hX := hX.trans (hbn.mono (by omega))
          try first | (have hlt := p3.lt; replace p3 := p3.of_eq (hbn.block _ (by omega))) | replace p3 := p3.below (hbn.mono hle)
          try first | (have hlt := p4.lt; replace p4 := p4.of_eq (hbn.block _ (by omega))) | replace p4 := p4.below (hbn.mono hle)
          have p3 := ht
          clear ht
          refine hK _ _ ⟨fun _ => ⟨_, ov_of hX⟩, ?_⟩
          clear hK K
          try simp only [List.getElem_toArray, List.getElem_cons_zero, List.getElem_cons_succ]
          simp only [Act.put, putS]
          refine anyX_seq (by kernel_rfl) (by kernel_rfl) ?_
          simp only [List.drop_succ_cons, List.drop_zero]
          go_wp2_with (first | (refine wpList_storeB (t := 24) rfl _ _ rfl _ rfl _ rfl p3 (by kernel_rfl) rfl (by simp [Value.oneCell']) ?_; clear p3; intro wn ht hcn hzn; have hsz := B.size; replace hzn := Nat.le_of_eq hzn.symm; replace B := Chg.below B hcn (by omega) B.size; (try replace p4 := p4.of_eq (hcn.block _ p4.lt (by omega))); have p3 := ht; clear ht; simp only [Act.put, putS]) | (refine wpList_storeB (t := 24) rfl _ _ rfl _ rfl _ rfl p4 (by kernel_rfl) rfl (by simp [Value.oneCell']) ?_; clear p4; intro wn ht hcn hzn; have hsz := B.size; replace hzn := Nat.le_of_eq hzn.symm; replace B := Chg.below B hcn (by omega) B.size; (try replace p3 := p3.of_eq (hcn.block _ p3.lt (by omega))); have p4 := ht; clear ht; simp only [Act.put, putS]) | fail)
          refine NoPan.normal ?_
          go_wp2_with fail
          go_meet
          exact ⟨b_p3, b_p4, rfl, rfl, B, by omega, by omega, p3, p4⟩
        · skip
          try simp only [List.getElem_toArray, List.getElem_cons_zero, List.getElem_cons_succ]
          refine owp_allocBk (t := 24) _ (run_alloc_Ps _ _ rfl) ?_
          intro b_p3 wn hle hge ht hbn hzn
          have hsz := B.size
          have hsx := hX.size
          replace B := B.trans (hbn.mono (by omega))
          replace hX := hX.trans (hbn.mono (by omega))
          try first | (have hlt := p3.lt; replace p3 := p3.of_eq (hbn.block _ (by omega))) | replace p3 := p3.below (hbn.mono hle)
          try first | (have hlt := p4.lt; replace p4 := p4.of_eq (hbn.block _ (by omega))) | replace p4 := p4.below (hbn.mono hle)
          have p3 := ht
          clear ht
          refine hK _ _ ⟨fun _ => ⟨_, ov_of hX⟩, ?_⟩
          clear hK K
          try simp only [List.getElem_toArray, List.getElem_cons_zero, List.getElem_cons_succ]
          simp only [Act.put, putS]
          refine anyX_next 13 rfl (by kernel_rfl) rfl (fun K hK => ?_)
          try simp only [List.getElem_toArray, List.getElem_cons_zero, List.getElem_cons_succ]
          go_simp
          go_at_call 63
          refine (P_AtO (c.x1 - 1) (c.y1 - 1) _ wf3.out wf4.out).mono ?_
          rintro e wn ⟨rfl, hbn⟩
          have hsz := B.size
          have hzn := hbn.size
          have hsx := hX.size
          replace B := B.trans (hbn.mono B.size)
          replace hX := hX.trans (hbn.mono hX.size)
          try first | replace p3 := p3.of_eq (hbn.block _ p3.lt) | replace p3 := p3.below hbn
          try first | replace p4 := p4.of_eq (hbn.block _ p4.lt) | replace p4 := p4.below hbn
          refine hK _ _ ⟨fun _ => ⟨_, ov_of hX⟩, ?_⟩
          clear hK K
          try simp only [List.getElem_toArray, List.getElem_cons_zero, List.getElem_cons_succ]
          simp only [Act.put, putS]
          refine anyX_seq (by kernel_rfl) (by kernel_rfl) ?_
          simp only [List.drop_succ_cons, List.drop_zero]
          go_wp2_with (first | (refine wpList_storeB (t := 24) rfl _ _ rfl _ rfl _ rfl p3 (by kernel_rfl) rfl (by simp [Value.oneCell']) ?_; clear p3; intro wn ht hcn hzn; have hsz := B.size; replace hzn := Nat.le_of_eq hzn.symm; replace B := Chg.below B hcn (by omega) B.size; (try replace p4 := p4.of_eq (hcn.block _ p4.lt (by omega))); have p3 := ht; clear ht; simp only [Act.put, putS]) | (refine wpList_storeB (t := 24) rfl _ _ rfl _ rfl _ rfl p4 (by kernel_rfl) rfl (by simp [Value.oneCell']) ?_; clear p4; intro wn ht hcn hzn; have hsz := B.size; replace hzn := Nat.le_of_eq hzn.symm; replace B := Chg.below B hcn (by omega) B.size; (try replace p3 := p3.of_eq (hcn.block _ p3.lt (by omega))); have p4 := ht; clear ht; simp only [Act.put, putS]) | fail)
          refine NoPan.normal ?_
          go_wp2_with fail
          go_meet
          exact ⟨b_p3, b_p4, rfl, rfl, B, by omega, by omega, p3, p4⟩
      · skip
        try simp only [List.getElem_toArray, List.getElem_cons_zero, List.getElem_cons_succ]
        refine owp_allocBk (t := 24) _ (run_alloc_Ps _ _ rfl) ?_
        intro b_p3 wn hle hge ht hbn hzn
        have hsz := B.size
        have hsx := hX.size
        replace B := B.trans (hbn.mono (by omega))
        replace hX := hX.trans (hbn.mono (by omega))
        try first | (have hlt := p3.lt; replace p3 := p3.of_eq (hbn.block _ (by omega))) | replace p3 := p3.below (hbn.mono hle)
        try first | (have hlt := p4.lt; replace p4 := p4.of_eq (hbn.block _ (by omega))) | replace p4 := p4.below (hbn.mono hle)
        have p3 := ht
        clear ht
        refine hK _ _ ⟨fun _ => ⟨_, ov_of hX⟩, ?_⟩
        clear hK K
        try simp only [List.getElem_toArray, List.getElem_cons_zero, List.getElem_cons_succ]
        simp only [Act.put, putS]
        refine anyX_next 5 rfl (by kernel_rfl) rfl (fun K hK => ?_)
        try simp only [List.getElem_toArray, List.getElem_cons_zero, List.getElem_cons_succ]
        go_simp
        go_at_call 63
        refine (P_AtO c.x0 c.y0 _ wf1.out wf2.out).mono ?_
        rintro e wn ⟨rfl, hbn⟩
        have hsz := B.size
        have hzn := hbn.size
        have hsx := hX.size
        replace B := B.trans (hbn.mono B.size)
        replace hX := hX.trans (hbn.mono hX.size)
        try first | replace p3 := p3.of_eq (hbn.block _ p3.lt) | replace p3 := p3.below hbn
        try first | replace p4 := p4.of_eq (hbn.block _ p4.lt) | replace p4 := p4.below hbn
        refine hK _ _ ⟨fun _ => ⟨_, ov_of hX⟩, ?_⟩
        clear hK K
        try simp only [List.getElem_toArray, List.getElem_cons_zero, List.getElem_cons_succ]
        simp only [Act.put, putS]
        refine anyX_next 13 rfl (by kernel_rfl) rfl (fun K hK => ?_)
        try simp only [List.getElem_toArray, List.getElem_cons_zero, List.getElem_cons_succ]
        go_simp
        go_at_call 63
        refine (P_AtO (c.x1 - 1) (c.y1 - 1) _ wf3.out wf4.out).mono ?_
        rintro e wn ⟨rfl, hbn⟩
        have hsz := B.size
        have hzn := hbn.size
        have hsx := hX.size
        replace B := B.trans (hbn.mono B.size)
        replace hX := hX.trans (hbn.mono hX.size)
        try first | replace p3 := p3.of_eq (hbn.block _ p3.lt) | replace p3 := p3.below hbn
        try first | replace p4 := p4.of_eq (hbn.block _ p4.lt) | replace p4 := p4.below hbn
        refine hK _ _ ⟨fun _ => ⟨_, ov_of hX⟩, ?_⟩
        clear hK K
        try simp only [List.getElem_toArray, List.getElem_cons_zero, List.getElem_cons_succ]
        simp only [Act.put, putS]
        refine anyX_seq (by kernel_rfl) (by kernel_rfl) ?_
        simp only [List.drop_succ_cons, List.drop_zero]
        go_wp2_with (first | (refine wpList_storeB (t := 24) rfl _ _ rfl _ rfl _ rfl p3 (by kernel_rfl) rfl (by simp [Value.oneCell']) ?_; clear p3; intro wn ht hcn hzn; have hsz := B.size; replace hzn := Nat.le_of_eq hzn.symm; replace B := Chg.below B hcn (by omega) B.size; (try replace p4 := p4.of_eq (hcn.block _ p4.lt (by omega))); have p3 := ht; clear ht; simp only [Act.put, putS]) | (refine wpList_storeB (t := 24) rfl _ _ rfl _ rfl _ rfl p4 (by kernel_rfl) rfl (by simp [Value.oneCell']) ?_; clear p4; intro wn ht hcn hzn; have hsz := B.size; replace hzn := Nat.le_of_eq hzn.symm; replace B := Chg.below B hcn (by omega) B.size; (try replace p3 := p3.of_eq (hcn.block _ p3.lt (by omega))); have p4 := ht; clear ht; simp only [Act.put, putS]) | fail)
        refine NoPan.normal ?_
        go_wp2_with fail
        go_meet
        exact ⟨b_p3, b_p4, rfl, rfl, B, by omega, by omega, p3, p4⟩
  case rest =>
  clear B r0 r0B
  obtain ⟨b_p3, b_p4, rfl, rfl, B, k3, k4, p3, p4⟩ := hcut
  have hJ := HJ.out _ B
  have n3 : b_p3 ≠ b8 := by omega
  have n4 : b_p4 ≠ b8 := by omega
  clear B HJ
  go_upto_region 2 with fail
  refine wp_region_lit ?_
  try simp only [List.getElem_toArray, List.getElem_cons_zero, List.getElem_cons_succ]
  refine wpList_chunk 7 (by kernel_rfl) ?_
  simp only [takS, Nat.reduceAdd]
  repeat (first | go_big_quiet_skip | (go_big_quiet_want; first | (refine quiet_loadAny (t := 3) rfl _ _ _ rfl (fun w hw => run_load_int ((ov_B p3 w hw).cellL 0 rfl)) (by rfl) ?_; simp only [Act.put, putS]; go_big_quiet_on) | (refine quiet_loadAny (t := 3) rfl _ _ _ rfl (fun w hw => run_load_int ((ov_B p3 w hw).cellL 1 rfl)) (by rfl) ?_; simp only [Act.put, putS]; go_big_quiet_on) | (refine quiet_loadAny (t := 3) rfl _ _ _ rfl (fun w hw => run_load_int ((ov_B p4 w hw).cellL 0 rfl)) (by rfl) ?_; simp only [Act.put, putS]; go_big_quiet_on) | (refine quiet_loadAny (t := 3) rfl _ _ _ rfl (fun w hw => run_load_int ((ov_B p4 w hw).cellL 1 rfl)) (by rfl) ?_; simp only [Act.put, putS]; go_big_quiet_on) | (go_big_quiet_op; go_big_quiet_on)))
  refine wpQuiet_nil ?_
  refine wpList_nil ?_
  go_wp2
  go_loopw [5, 6, 29] (fun _ _ iv wr => ∃ k : Nat, k ≤ H ∧ iv = .int .i64 (k : Int) ∧ J (fpre (tlN c) (W * k)) wr ∧ AtB 24 wr b_p3 #[.int .i64 (c.x0 / 8), .int .i64 (c.y0 / 8)] ∧ AtB 24 wr b_p4 #[.int .i64 ((c.x1 - 1) / 8), .int .i64 ((c.y1 - 1) / 8)]) (fun _ _ iv _ => (H - intOf iv).toNat)
  case atStart => exact ⟨0, by omega, by simp, by rw [Nat.mul_zero, fpre_zero]; exact hJ, p3, p4⟩
  case round =>
    clear p3 p4 hJ
    obtain ⟨k, hk, rfl, hJ, p3, p4⟩ := hrel
    by_cases hkH : k < H
    · have q1 : decide ((k : Int) < (c.y1 - 1) / 8 - c.y0 / 8 + 1) = true := decide_eq_true (by omega)
      have hn2 : W * k + W ≤ W * H := by
        have := Nat.mul_le_mul_left W (show k + 1 ≤ H from hkH)
        rw [Nat.mul_succ] at this
        exact this
      go_upto_region 3 with fail
      refine wp_region_lit ?_
      try simp only [List.getElem_toArray, List.getElem_cons_zero, List.getElem_cons_succ]
      refine wpList_chunk 1 (by kernel_rfl) ?_
      simp only [takS, Nat.reduceAdd]
      repeat (first | go_big_quiet_skip | (go_big_quiet_want; first | (refine quiet_loadAny (t := 3) rfl _ _ _ rfl (fun w hw => run_load_int ((ov_B p3 w hw).cellL 0 rfl)) (by rfl) ?_; simp only [Act.put, putS]; go_big_quiet_on) | (refine quiet_loadAny (t := 3) rfl _ _ _ rfl (fun w hw => run_load_int ((ov_B p3 w hw).cellL 1 rfl)) (by rfl) ?_; simp only [Act.put, putS]; go_big_quiet_on) | (refine quiet_loadAny (t := 3) rfl _ _ _ rfl (fun w hw => run_load_int ((ov_B p4 w hw).cellL 0 rfl)) (by rfl) ?_; simp only [Act.put, putS]; go_big_quiet_on) | (refine quiet_loadAny (t := 3) rfl _ _ _ rfl (fun w hw => run_load_int ((ov_B p4 w hw).cellL 1 rfl)) (by rfl) ?_; simp only [Act.put, putS]; go_big_quiet_on) | (go_big_quiet_op; go_big_quiet_on)))
      refine wpQuiet_nil ?_
      refine wpList_nil ?_
      go_upto_region 4 with fail
      refine wp_region_lit ?_
      try simp only [List.getElem_toArray, List.getElem_cons_zero, List.getElem_cons_succ]
      refine wpList_chunk 2 (by kernel_rfl) ?_
      simp only [takS, Nat.reduceAdd]
      repeat (first | go_big_quiet_skip | (go_big_quiet_want; first | (refine quiet_loadAny (t := 3) rfl _ _ _ rfl (fun w hw => run_load_int ((ov_B p3 w hw).cellL 0 rfl)) (by rfl) ?_; simp only [Act.put, putS]; go_big_quiet_on) | (refine quiet_loadAny (t := 3) rfl _ _ _ rfl (fun w hw => run_load_int ((ov_B p3 w hw).cellL 1 rfl)) (by rfl) ?_; simp only [Act.put, putS]; go_big_quiet_on) | (refine quiet_loadAny (t := 3) rfl _ _ _ rfl (fun w hw => run_load_int ((ov_B p4 w hw).cellL 0 rfl)) (by rfl) ?_; simp only [Act.put, putS]; go_big_quiet_on) | (refine quiet_loadAny (t := 3) rfl _ _ _ rfl (fun w hw => run_load_int ((ov_B p4 w hw).cellL 1 rfl)) (by rfl) ?_; simp only [Act.put, putS]; go_big_quiet_on) | (go_big_quiet_op; go_big_quiet_on)))
      refine wpQuiet_nil ?_
      refine wpList_nil ?_
      go_upto_region 5 with fail
      refine wp_region_lit ?_
      try simp only [List.getElem_toArray, List.getElem_cons_zero, List.getElem_cons_succ]
      refine wpList_chunk 7 (by kernel_rfl) ?_
      simp only [takS, Nat.reduceAdd]
      repeat (first | go_big_quiet_skip | (go_big_quiet_want; first | (refine quiet_loadAny (t := 3) rfl _ _ _ rfl (fun w hw => run_load_int ((ov_B p3 w hw).cellL 0 rfl)) (by rfl) ?_; simp only [Act.put, putS]; go_big_quiet_on) | (refine quiet_loadAny (t := 3) rfl _ _ _ rfl (fun w hw => run_load_int ((ov_B p3 w hw).cellL 1 rfl)) (by rfl) ?_; simp only [Act.put, putS]; go_big_quiet_on) | (refine quiet_loadAny (t := 3) rfl _ _ _ rfl (fun w hw => run_load_int ((ov_B p4 w hw).cellL 0 rfl)) (by rfl) ?_; simp only [Act.put, putS]; go_big_quiet_on) | (refine quiet_loadAny (t := 3) rfl _ _ _ rfl (fun w hw => run_load_int ((ov_B p4 w hw).cellL 1 rfl)) (by rfl) ?_; simp only [Act.put, putS]; go_big_quiet_on) | (go_big_quiet_op; go_big_quiet_on)))
      refine wpQuiet_nil ?_
      refine wpList_nil ?_
      go_wp2
      go_loopw [6, 38] (fun _ iv wr => ∃ j : Nat, j ≤ W ∧ iv = .int .i64 (j : Int) ∧ J (fpre (tlN c) (W * k + j)) wr ∧ AtB 24 wr b_p3 #[.int .i64 (c.x0 / 8), .int .i64 (c.y0 / 8)] ∧ AtB 24 wr b_p4 #[.int .i64 ((c.x1 - 1) / 8), .int .i64 ((c.y1 - 1) / 8)]) (fun _ iv _ => (W - intOf iv).toNat)
      case atStart => exact ⟨0, by omega, by simp, hJ, p3, p4⟩
      case round =>
        clear p3 p4 hJ
        obtain ⟨j, hj, rfl, hJ, p3, p4⟩ := hrel
        by_cases hjW : j < W
        · have q2 : decide ((j : Int) < (c.x1 - 1) / 8 - c.x0 / 8 + 1) = true := decide_eq_true (by omega)
          have hlt : W * k + j < tlN c := by omega
          go_upto_region 6 with fail
          refine wp_region_lit ?_
          try simp only [List.getElem_toArray, List.getElem_cons_zero, List.getElem_cons_succ]
          refine wpList_chunk 1 (by kernel_rfl) ?_
          simp only [takS, Nat.reduceAdd]
          repeat (first | go_big_quiet_skip | (go_big_quiet_want; first | (refine quiet_loadAny (t := 3) rfl _ _ _ rfl (fun w hw => run_load_int ((ov_B p3 w hw).cellL 0 rfl)) (by rfl) ?_; simp only [Act.put, putS]; go_big_quiet_on) | (refine quiet_loadAny (t := 3) rfl _ _ _ rfl (fun w hw => run_load_int ((ov_B p3 w hw).cellL 1 rfl)) (by rfl) ?_; simp only [Act.put, putS]; go_big_quiet_on) | (refine quiet_loadAny (t := 3) rfl _ _ _ rfl (fun w hw => run_load_int ((ov_B p4 w hw).cellL 0 rfl)) (by rfl) ?_; simp only [Act.put, putS]; go_big_quiet_on) | (refine quiet_loadAny (t := 3) rfl _ _ _ rfl (fun w hw => run_load_int ((ov_B p4 w hw).cellL 1 rfl)) (by rfl) ?_; simp only [Act.put, putS]; go_big_quiet_on) | (go_big_quiet_op; go_big_quiet_on)))
          refine wpQuiet_nil ?_
          refine wpList_nil ?_
          go_upto_region 7 with fail
          refine wp_region_lit ?_
          try simp only [List.getElem_toArray, List.getElem_cons_zero, List.getElem_cons_succ]
          refine wpList_chunk 2 (by kernel_rfl) ?_
          simp only [takS, Nat.reduceAdd]
          repeat (first | go_big_quiet_skip | (go_big_quiet_want; first | (refine quiet_loadAny (t := 3) rfl _ _ _ rfl (fun w hw => run_load_int ((ov_B p3 w hw).cellL 0 rfl)) (by rfl) ?_; simp only [Act.put, putS]; go_big_quiet_on) | (refine quiet_loadAny (t := 3) rfl _ _ _ rfl (fun w hw => run_load_int ((ov_B p3 w hw).cellL 1 rfl)) (by rfl) ?_; simp only [Act.put, putS]; go_big_quiet_on) | (refine quiet_loadAny (t := 3) rfl _ _ _ rfl (fun w hw => run_load_int ((ov_B p4 w hw).cellL 0 rfl)) (by rfl) ?_; simp only [Act.put, putS]; go_big_quiet_on) | (refine quiet_loadAny (t := 3) rfl _ _ _ rfl (fun w hw => run_load_int ((ov_B p4 w hw).cellL 1 rfl)) (by rfl) ?_; simp only [Act.put, putS]; go_big_quiet_on) | (go_big_quiet_op; go_big_quiet_on)))
          refine wpQuiet_nil ?_
          refine wpList_nil ?_
          go_upto_region 8 with fail
          obtain ⟨fn, tmps, assign, body, hy, hR⟩ := HY.out (fpre (tlN c) (W * k + j)) ⟨W * k + j, hlt⟩ _ hJ (by rw [fpre_length (by omega)]; exact hlt)
          have ep : posF c ⟨W * k + j, hlt⟩ = (c.x0 / 8 + (j : Int), c.y0 / 8 + (k : Int)) := HR.out k j hjW
          rw [ep] at hy
          try dsimp only at hy
          rw [← fpre_succ hlt] at hR
          have c0 := p3.cellL 0 rfl
          have c1 := p3.cellL 1 rfl
          try dsimp only at c0 c1
          refine (wpIn_wide (n := n)).1 ?_
          gi_wp2
          refine hR.mono ?_
          rintro e W1 (⟨rfl, hJ1, hkp⟩ | ⟨rfl, hx1⟩)
          · replace p3 := hkp.atB n3 p3
            replace p4 := hkp.atB n4 p4
            clear c0 c1
            gi_wp2
            go_wp2
            go_roundw
            case rel => exact ⟨j + 1, by omega, by go_num, hJ1, p3, p4⟩
            case measure => simp [intOf]; omega
          · gi_wp2
            go_wp2
            refine bodyPost_ret (results_none rfl _ _ _) rfl ?_
            exact ⟨⟨_, rfl⟩, .inr ⟨_, trivial, hx1⟩⟩
        · obtain rfl : j = W := by omega
          have q2 : decide ((j : Int) < (c.x1 - 1) / 8 - c.x0 / 8 + 1) = false := decide_eq_false (by omega)
          go_upto_region 6 with fail
          refine wp_region_lit ?_
          try simp only [List.getElem_toArray, List.getElem_cons_zero, List.getElem_cons_succ]
          refine wpList_chunk 1 (by kernel_rfl) ?_
          simp only [takS, Nat.reduceAdd]
          repeat (first | go_big_quiet_skip | (go_big_quiet_want; first | (refine quiet_loadAny (t := 3) rfl _ _ _ rfl (fun w hw => run_load_int ((ov_B p3 w hw).cellL 0 rfl)) (by rfl) ?_; simp only [Act.put, putS]; go_big_quiet_on) | (refine quiet_loadAny (t := 3) rfl _ _ _ rfl (fun w hw => run_load_int ((ov_B p3 w hw).cellL 1 rfl)) (by rfl) ?_; simp only [Act.put, putS]; go_big_quiet_on) | (refine quiet_loadAny (t := 3) rfl _ _ _ rfl (fun w hw => run_load_int ((ov_B p4 w hw).cellL 0 rfl)) (by rfl) ?_; simp only [Act.put, putS]; go_big_quiet_on) | (refine quiet_loadAny (t := 3) rfl _ _ _ rfl (fun w hw => run_load_int ((ov_B p4 w hw).cellL 1 rfl)) (by rfl) ?_; simp only [Act.put, putS]; go_big_quiet_on) | (go_big_quiet_op; go_big_quiet_on)))
          refine wpQuiet_nil ?_
          refine wpList_nil ?_
          go_upto_region 10 with fail
          refine wp_region_lit ?_
          try simp only [List.getElem_toArray, List.getElem_cons_zero, List.getElem_cons_succ]
          refine wpList_chunk 2 (by kernel_rfl) ?_
          simp only [takS, Nat.reduceAdd]
          repeat (first | go_big_quiet_skip | (go_big_quiet_want; first | (refine quiet_loadAny (t := 3) rfl _ _ _ rfl (fun w hw => run_load_int ((ov_B p3 w hw).cellL 0 rfl)) (by rfl) ?_; simp only [Act.put, putS]; go_big_quiet_on) | (refine quiet_loadAny (t := 3) rfl _ _ _ rfl (fun w hw => run_load_int ((ov_B p3 w hw).cellL 1 rfl)) (by rfl) ?_; simp only [Act.put, putS]; go_big_quiet_on) | (refine quiet_loadAny (t := 3) rfl _ _ _ rfl (fun w hw => run_load_int ((ov_B p4 w hw).cellL 0 rfl)) (by rfl) ?_; simp only [Act.put, putS]; go_big_quiet_on) | (refine quiet_loadAny (t := 3) rfl _ _ _ rfl (fun w hw => run_load_int ((ov_B p4 w hw).cellL 1 rfl)) (by rfl) ?_; simp only [Act.put, putS]; go_big_quiet_on) | (go_big_quiet_op; go_big_quiet_on)))
          refine wpQuiet_nil ?_
          refine wpList_nil ?_
          go_wp2
          go_roundw
          case rel => exact ⟨k + 1, by omega, by go_num, by rw [Nat.mul_succ]; exact hJ, p3, p4⟩
          case measure => simp [intOf]; omega
    · obtain rfl : k = H := by omega
      have q1 : decide ((k : Int) < (c.y1 - 1) / 8 - c.y0 / 8 + 1) = false := decide_eq_false (by omega)
      go_upto_region 3 with fail
      refine wp_region_lit ?_
      try simp only [List.getElem_toArray, List.getElem_cons_zero, List.getElem_cons_succ]
      refine wpList_chunk 1 (by kernel_rfl) ?_
      simp only [takS, Nat.reduceAdd]
      repeat (first | go_big_quiet_skip | (go_big_quiet_want; first | (refine quiet_loadAny (t := 3) rfl _ _ _ rfl (fun w hw => run_load_int ((ov_B p3 w hw).cellL 0 rfl)) (by rfl) ?_; simp only [Act.put, putS]; go_big_quiet_on) | (refine quiet_loadAny (t := 3) rfl _ _ _ rfl (fun w hw => run_load_int ((ov_B p3 w hw).cellL 1 rfl)) (by rfl) ?_; simp only [Act.put, putS]; go_big_quiet_on) | (refine quiet_loadAny (t := 3) rfl _ _ _ rfl (fun w hw => run_load_int ((ov_B p4 w hw).cellL 0 rfl)) (by rfl) ?_; simp only [Act.put, putS]; go_big_quiet_on) | (refine quiet_loadAny (t := 3) rfl _ _ _ rfl (fun w hw => run_load_int ((ov_B p4 w hw).cellL 1 rfl)) (by rfl) ?_; simp only [Act.put, putS]; go_big_quiet_on) | (go_big_quiet_op; go_big_quiet_on)))
      refine wpQuiet_nil ?_
      refine wpList_nil ?_
      go_wp2
      go_end0
      have eF : fpre (tlN c) (W * k) = List.finRange (tlN c) := by rw [← hew]; exact fpre_all _
      rw [eF] at hJ
      exact ⟨⟨_, rfl⟩, .inl ⟨_, rfl, hJ⟩⟩
end Go.Proofs.Ytppccnjckiedlaa
/- Contract of Paste of package raster, where the rectangle fits. -/
namespace Go.Proofs.Ytppccnjckiedlaa
open Go.RowKit Go.Shelf Pl
attribute [local go_sem] Oper.semAt_some
set_option linter.unusedVariables false
set_option linter.unusedSimpArgs false
set_option maxRecDepth 20000
theorem run_alloc_Sl (w : World) (o : Oper) (ho : o.op = .alloc 28) (ev : Operand → Value) : (execOp ev o).run Try.prog w = .ok (.value (.pointer (some ⟨w.heap.size, 0, none⟩))) (w.alloc (.cells #[.slice none 0 0] 28)) := by
  obtain ⟨d, p, t, ps, af, gd⟩ := o
  simp only at ho
  subst ho
  kernel_rfl
/-- A slice stored into its own cell. -/
theorem wpList_storeSl {v : Value} {ops : Array Oper} {rest : List Oper} {o : Oper} {a : Act} {w : World} {Q : Exit → Act → World → Prop} (hg : o.guard = none) (x y : Operand) (ho : o.op = .store 28 x y) (b : Nat) (hx : a.eval x = .pointer (some ⟨b, 0, none⟩)) (a' : Option Addr) (n' c' : Nat) (hy : a.eval y = .slice a' n' c') (ht : AtB 28 w b #[v])
    (h : ∀ w', AtB 28 w' b #[.slice a' n' c'] → Chg b w w' → w'.heap.size = w.heap.size → wpList Try.prog ops Q rest (a.put o.dst undef) w') : wpList Try.prog ops Q (o :: rest) a w := by
  have c0 := ht.cell 0 rfl
  have f0 := ht.frozen 0
  refine wpList_storeAny hg x y ho (w.setCell ⟨b, 0, none⟩ (.slice a' n' c')) ?_ (h _ ?_ ((Chg.refl b w).setCell _) (by simp only [World.size_setCell]))
  · rw [hx, hy]
    simp [go_sem, c0, f0]
  · exact heap_setCell_same w b 0 #[v] _ _ ht
theorem wpList_val {ops : Array Oper} {rest : List Oper} {o : Oper} {a : Act} {w : World} {Q : Exit → Act → World → Prop} (hg : o.guard = none) (v : Value) (hrun : (execOp a.eval o).run Try.prog w = .ok (.value v) w)
    (h : wpList Try.prog ops Q rest (a.put o.dst v) w) : wpList Try.prog ops Q (o :: rest) a w :=
  wpList_plain hg fun K hK => by
    unfold Oper.wp
    rw [hrun]
    exact hK _ _ h
theorem fill_TA0 (x y : Int) : Instr.fill (fun i => #[(0, 2), (2, 256)][i]?) zTA [(0, Ps.v x y)] = some (taC ⟨x, y, zT⟩) := by
  obtain ⟨r, hs, hr, e⟩ := fill_cons (place := fun i => #[(0, 2), (2, 256)][i]?) (cells := zTA) (i := 0) (v := Ps.v x y) (rest := []) (off := 0) (sz := 2) rfl (by rw [cells_ps]; rfl) (by rw [size_zTA]; omega)
  rw [e]
  show some r = _
  congr 1
  apply Array.ext_getElem?
  intro k
  rw [hr k, taC_get, cells_ps]
  by_cases h2 : k < 2
  · rw [if_pos (by omega), if_pos h2, Nat.sub_zero]
  · rw [if_neg (by omega), if_neg h2]
    have hz : zTA[k]? = (tileC zT)[k - 2]? := by
      have e : zTA = #[.int .i64 0, .int .i64 0] ++ tileC zT := by unfold zTA; kernel_rfl
      rw [e, Array.getElem?_append_right (by simp; omega)]
      rfl
    exact hz
theorem run_build_TA0 (w : World) (x y : Int) : (Instr.build 79 #[(0, Ps.v x y)]).run Try.prog w = .ok (.agg (taC ⟨x, y, zT⟩)) w :=
  run_build w 79 #[(0, Ps.v x y)] _ ((built_TA _).trans (fill_TA0 x y))
theorem quiet_buildTA0 {o : Oper} {a : Act} {C : World → Prop} {K : Act → Prop} {p : Operand} (h : o.op = .build 79 #[(0, p)]) (x y : Int) (hp : a.eval p = .agg #[.int .i64 x, .int .i64 y]) (hk : K (a.put o.dst (.agg (taC ⟨x, y, zT⟩)))) : o.quiet Try.prog a C K :=
  ⟨_, fun w hw => by
    have r := run_build_TA0 w x y
    simp only [Ps.v] at r
    unfold Oper.quietAt execOp
    simp only [h, List.map_toArray, List.map_cons, List.map_nil, hp, Sem.run_bind, r, Result.andThen_ok, Sem.run_pure]
    exact ⟨rfl, rfl⟩, hk⟩
theorem below_same {b : Nat} {w w' : World} (h : Chg b w w') (e : w'.heap[b]? = w.heap[b]?) : Below w.heap.size w w' :=
  ⟨h.os, h.tape, h.output, h.size, fun k hk => by
    by_cases hb : k = b
    · subst hb; exact e
    · exact h.block k hk hb⟩
theorem RCellsE.ownP {g o : Nat} {ls : List Px} {A B : World} {row : Option Nat} (h : RCellsE pxE g o ls A) (hn : 0 < ls.length) (hg : A.grownBy B row) (hr : ∀ r, row = some r → ∃ o : Obj, A.heap[r]? = some o ∧ o.isCells = false) : RCellsE pxE g o ls B := by
  refine h.of_eq (hg.block g h.lt fun e => ?_)
  obtain ⟨x, hx, hc⟩ := hr g e.symm
  have h0 := h.2 0 _ (List.getElem?_eq_getElem hn) 0 (by omega)
  have hs : ∃ v, (pxE.enc ls[0])[0]? = some v := ⟨_, rfl⟩
  obtain ⟨v, hv⟩ := hs
  rw [hv] at h0
  have := cell_not h0 x hx
  rw [hc] at this
  cases this
/-- The pixels of one tile turned by the paste. -/
theorem P_mapPst (c : Rc) (hf : Fits c) (L : List Px) (hL : L.length = areaN c) (okL : OkL L) (e : TA) (a : Option Addr) (cp0 : Nat) (bc bm cb g o cp : Nat) (z : Nat → Px) (w : World) (rs : RS (.slice a 1 cp0) [e] w) (tk : Tok e.t) (hw : withinB e.x e.y = true) (r0 : AtB 64 w bc (rcA c)) (m0 : AtB 68 w bm (imgC c (.slice (some ⟨g, o, none⟩) (areaN c) cp))) (ce : RCellsE pxE g o L w) (tz : TileAt w cb z) (hsep : (Value.slice a 1 cp0).ownBlock ≠ some cb) :
    Calls Try.prog 79 #[.slice a 1 cp0, .func (.func 94) #[] #[.pointer (some ⟨bc, 0, none⟩), .pointer (some ⟨bm, 0, none⟩)]] w fun e' w' => ∃ a' cp', e' = .returned (.slice a' (newA e.x e.y (pstT c L e.x e.y e.t)).length cp') ∧ RS (.slice a' (newA e.x e.y (pstT c L e.x e.y e.t)).length cp') (newA e.x e.y (pstT c L e.x e.y e.t)) w' ∧ Below w.heap.size w w' := by
  have eg := enters_of Try.func94 (by kernel_rfl) rfl
  have l1 := r0.lt
  have l2 := m0.lt
  have l3 := ce.lt
  have l4 := tz.lt
  refine (P_mapped (pstF c L) (fun _ W => AtB 64 W bc (rcA c) ∧ AtB 68 W bm (imgC c (.slice (some ⟨g, o, none⟩) (areaN c) cp)) ∧ RCellsE pxE g o L W ∧ TileAt W cb z) cb 94 #[.pointer (some ⟨bc, 0, none⟩), .pointer (some ⟨bm, 0, none⟩)] eg _ [e] () w rs (fun x hx => by rcases List.mem_singleton.1 hx with rfl; exact tk) (by simp) (fun x hx => by rcases List.mem_singleton.1 hx with rfl; exact hw) l4 (fun _ => hsep) ⟨r0, m0, ce, tz⟩
    (fun s W W' hI hk => ⟨hI.1.of_eq (hk _ l1), hI.2.1.of_eq (hk _ l2), hI.2.2.1.of_eq (hk _ l3), hI.2.2.2.of_eq (hk _ l4)⟩)
    (fun s W x y p _ hI h1 h2 h3 h4 hp => (P_Paste1 c hf L hL okL x y p hp bc bm g o cp W hI.1 hI.2.1 hI.2.2.1).mono fun e' W' ⟨he, hb⟩ => ⟨he, ⟨hI.1.of_eq (hb.block _ hI.1.lt), hI.2.1.of_eq (hb.block _ hI.2.1.lt), hI.2.2.1.of_eq (hb.block _ hI.2.2.1.lt), hI.2.2.2.of_eq (hb.block _ hI.2.2.2.lt)⟩, Chg.of_below hb⟩)
    (fun s x y p hp => pstP_ok okL x y p hp)).mono ?_
  rintro e' w' ⟨v', rfl, od, hI, hcc⟩
  have hm : (mapK (pstF c L) [e] () [e].length).2 = newA e.x e.y (pstT c L e.x e.y e.t) := mapK_pst c L e
  rw [hm] at od
  have hb := below_same hcc (by rw [show w'.heap[cb]? = _ from hI.2.2.2, show w.heap[cb]? = _ from tz])
  obtain ⟨a', cp', rfl, _⟩ := od.len
  exact ⟨a', cp', rfl, od.rs, hb⟩
theorem P_findB (v : Value) (ls : List TA) (x y : Int) (k : Nat) (b : Bool) (w : World) (h : RS v ls w) (hs : Srt ls) (hn : ls.length ≤ 1000000) (hk : cutL ls x y = k) (hb : hitL ls x y = b) : Calls Try.prog 93 #[v, .agg #[.int .i64 x, .int .i64 y]] w fun e w' => e = .returned (.tuple #[.int .i64 (k : Int), .bool b]) ∧ Below w.heap.size w w' := by
  subst hk hb
  exact P_find v ls x y w h hs hn
theorem zip1_wp {F : Fence} {n : Nat} {P : Program} {c : Code} {Q : Exit → Act → World → Prop} {W : World} {t : Array Value} {p : Tmp} {v : Value} (h : c.wpIn F n P Q { tmps := t.setIfInBounds p v, defers := [] } W) :
    c.wpIn F n P Q { tmps := (#[p].zip #[v]).foldl (fun t (p, v) => t.setIfInBounds p v) t, defers := [] } W := by
  have e : (#[p].zip #[v]).foldl (fun t (p, v) => t.setIfInBounds p v) t = t.setIfInBounds p v := by
    show Array.foldl _ t (Array.zip (List.toArray [p]) (List.toArray [v])) = _
    rw [List.zip_toArray]
    simp
  rw [e]
  exact h
theorem arr_fn (t : Array Value) (n : Nat) (h : t.size = n) : ∃ U : Nat → Value, t = ((List.range n).map U).toArray ∧ ∀ i, U i = t.getD i undef := by
  refine ⟨fun i => t.getD i undef, ?_, fun _ => rfl⟩
  apply Array.ext_getElem?
  intro k
  by_cases hk : k < n
  · simp [hk, h]
  · simp [hk, h]
/-- A block of deferred calls, empty. -/
def DefAt (w : World) (D : Nat) : Prop := w.heap[D]? = some (.deferred (some []))
theorem DefAt.of_eq {w w' : World} {D : Nat} (h : DefAt w D) (e : w'.heap[D]? = w.heap[D]?) : DefAt w' D := e.trans h
theorem DefAt.lt {w : World} {D : Nat} (h : DefAt w D) : D < w.heap.size := (Array.getElem?_eq_some_iff.1 h).1
theorem DefAt.ne {w : World} {D b : Nat} {t : TypeId} {cs : Array Value} (h : DefAt w D) (k : AtB t w b cs) : b ≠ D := fun e => by
  subst e
  have k' : w.heap[b]? = _ := k
  rw [show w.heap[b]? = _ from h] at k'
  cases k'
theorem rs_mid {g o : Nat} {ls : List TA} {w : World} (sc : RCells g o ls w) {k : Nat} (hk : k < ls.length) : RS (.slice (some ⟨g, o + k * 258, none⟩) 1 1) [aT ls k] w := by
  refine .inr ⟨g, o + k * 258, 1, rfl, Nat.le_refl _, fun _ => ⟨sc.1, fun i hi j hj => ?_⟩⟩
  obtain rfl : i = 0 := by simpa using hi
  have := sc.2 k hk j hj
  rw [show o + k * 258 + (0 * 258 + j) = o + (k * 258 + j) by omega, this]
  rfl
set_option maxHeartbeats 8000000 in
theorem P_Paste_ok (v : Value) (ls : List TA) (c : Rc) (u : Value) (L : List Px) (w : World) (h : RS v ls w) (tk : TokL ls) (hn : ls.length ≤ maxLen) (hE : fitsE c = 0) (hu : RSE pxE u L w) (hL : L.length = areaN c) (okL : OkL L) : Calls Try.prog 48 #[.agg #[v], .agg (imgC c u)] w fun e w' => ∃ a cp, e = .returned (.tuple #[.agg #[.slice a (manyL (pstL c L (fineL ls) (posL c))).length cp], .int .i64 (manyE (pstL c L (fineL ls) (posL c)))]) ∧ RS (.slice a (manyL (pstL c L (fineL ls) (posL c))).length cp) (manyL (pstL c L (fineL ls) (posL c))) w' ∧ Below w.heap.size w w' := by
  have B := Below.refl w.heap.size w
  obtain ⟨a', c', hT⟩ := P_tiles v ls w h tk hn
  have HT := Lib.hid hT
  clear hT
  obtain ⟨a, cpv, rfl, hc⟩ := h.len
  have HF := fitsE_zero hE
  have FT := Lib.hid HF
  obtain ⟨an1, an2⟩ := area_bd HF
  have hAN := Lib.hid (area_N HF)
  have HV := Lib.hid HF.valid
  obtain ⟨ad, cu, rfl, hcu⟩ := hu.len
  obtain ⟨g, o, rfl, ce⟩ := hu.at (by have := area_N HF; omega)
  have SR := Lib.hid (validL_srt (fineL_valid ls))
  have TK := Lib.hid (fineL_tok tk)
  have hfl := fineL_length ls
  have hNle := tlN_le HF
  have OK := Lib.hid okL
  have HL := Lib.hid hL
  have HEE := Lib.hid hE
  have d1 : ((areaN c : Int) != (areaN c : Int)) = false := by simp
  rw [hL]
  rw [hL] at hcu
  clear h tk hu okL hL hE HF
  generalize hks : fineL ls = KS at *
  refine (callsIn_wide (n := 3)).1 ?_
  refine callsIn_of_wp_marks Try.func48 rfl trivial ?_ rfl
  simp only [Try.ntmps48, List.size_toArray, List.length_cons, List.length_nil, Nat.reduceAdd, Nat.reduceSub, Array.replicate_succ, Array.replicate_zero, List.push_toArray, List.append_toArray, List.nil_append, List.cons_append]
  refine wpIn_wide.2 ?_
  go_upto_region 0 with fail
  refine wp_region_lit ?_
  try simp only [List.getElem_toArray, List.getElem_cons_zero, List.getElem_cons_succ]
  (refine wpList_boxB (t := 30) rfl _ rfl _ rfl ?_; intro b_r2 wn hle hge ht hbn hzn; have hsz := B.size; replace B := B.trans (hbn.mono (by omega)); have hln := Nat.lt_of_lt_of_eq (Nat.lt_succ_self _) hzn.symm; clear hzn; (try first | (have hlt := ce.lt; replace ce := ce.of_eq (hbn.block _ (by omega))) | replace ce := ce.below (hbn.mono hle)); have r2 := ht; clear ht; simp only [Act.put, putS])
  (refine wpList_boxB (t := 68) rfl _ rfl _ rfl ?_; intro b_m3 wn hle hge ht hbn hzn; have hsz := B.size; replace B := B.trans (hbn.mono (by omega)); have hln := Nat.lt_of_lt_of_eq (Nat.lt_succ_self _) hzn.symm; clear hzn; (try first | (have hlt := r2.lt; replace r2 := r2.of_eq (hbn.block _ (by omega))) | replace r2 := r2.below (hbn.mono hle)); (try first | (have hlt := ce.lt; replace ce := ce.of_eq (hbn.block _ (by omega))) | replace ce := ce.below (hbn.mono hle)); have m3 := ht; clear ht; simp only [Act.put, putS])
  (refine wpList_allocBk (t := 30) rfl _ (run_alloc_R _ _ rfl) ?_; intro b_r4 wn hle hge ht hbn hzn; have hsz := B.size; replace B := B.trans (hbn.mono (by omega)); have hln := Nat.lt_of_lt_of_eq (Nat.lt_succ_self _) hzn.symm; clear hzn; (try first | (have hlt := r2.lt; replace r2 := r2.of_eq (hbn.block _ (by omega))) | replace r2 := r2.below (hbn.mono hle)); (try first | (have hlt := m3.lt; replace m3 := m3.of_eq (hbn.block _ (by omega))) | replace m3 := m3.below (hbn.mono hle)); (try first | (have hlt := ce.lt; replace ce := ce.of_eq (hbn.block _ (by omega))) | replace ce := ce.below (hbn.mono hle)); have r4 := ht; clear ht; simp only [Act.put, putS])
  refine wpList_chunk 1 (by kernel_rfl) ?_
  simp only [takS, Nat.reduceAdd]
  repeat (first | go_big_quiet_skip | (go_big_quiet_want; first | (go_big_quiet_op; go_big_quiet_on)))
  refine wpQuiet_nil ?_
  refine wpList_nil ?_
  go_upto_region 1 with fail
  refine wp_region_lit ?_
  try simp only [List.getElem_toArray, List.getElem_cons_zero, List.getElem_cons_succ]
  refine wpList_chunk 2 (by kernel_rfl) ?_
  simp only [takS, Nat.reduceAdd]
  repeat (first | go_big_quiet_skip | (go_big_quiet_want; first | (refine quiet_loadAny (t := 64) rfl _ _ _ rfl (fun w hw => run_load_imR (ov_B m3 w hw)) (by first | rfl | omega) ?_; simp only [Act.put, putS]; go_big_quiet_on) | (refine quiet_loadAny (t := 64) rfl _ _ _ rfl (fun w hw => run_load_B (ov_B c6 w hw) Try.isAgg64 (by kernel_rfl)) (by rfl) ?_; simp only [Act.put, putS]; go_big_quiet_on) | (go_big_quiet_op; go_big_quiet_on)))
  refine wpQuiet_nil ?_
  (refine wpList_allocBk (t := 64) rfl _ (run_alloc_Rc _ _ rfl) ?_; intro b_c6 wn hle hge ht hbn hzn; have hsz := B.size; replace B := B.trans (hbn.mono (by omega)); have hln := Nat.lt_of_lt_of_eq (Nat.lt_succ_self _) hzn.symm; clear hzn; (try first | (have hlt := r2.lt; replace r2 := r2.of_eq (hbn.block _ (by omega))) | replace r2 := r2.below (hbn.mono hle)); (try first | (have hlt := m3.lt; replace m3 := m3.of_eq (hbn.block _ (by omega))) | replace m3 := m3.below (hbn.mono hle)); (try first | (have hlt := r4.lt; replace r4 := r4.of_eq (hbn.block _ (by omega))) | replace r4 := r4.below (hbn.mono hle)); (try first | (have hlt := c6.lt; replace c6 := c6.of_eq (hbn.block _ (by omega))) | replace c6 := c6.below (hbn.mono hle)); (try first | (have hlt := ce.lt; replace ce := ce.of_eq (hbn.block _ (by omega))) | replace ce := ce.below (hbn.mono hle)); have c6 := ht; clear ht; simp only [Act.put, putS])
  (refine wpList_storeB (t := 64) rfl _ _ rfl _ rfl _ rfl c6 (by kernel_rfl) rfl (by simp [rcA, imgC, Value.oneCell']) ?_; clear c6; intro wn ht hcn hzn; have hsz := B.size; replace hzn := Nat.le_of_eq hzn.symm; replace B := Chg.below B hcn (by omega) B.size; (try replace r2 := r2.of_eq (hcn.block _ r2.lt (by omega))); (try replace m3 := m3.of_eq (hcn.block _ m3.lt (by omega))); (try replace r4 := r4.of_eq (hcn.block _ r4.lt (by omega))); (try replace ce := ce.of_eq (hcn.block _ ce.lt (by omega))); have c6 := ht; clear ht; simp only [Act.put, putS])
  refine wpList_nil ?_
  replace c6 : AtB 64 _ b_c6 (rcA c) := c6
  go_upto_region 2 with fail
  try simp only [List.getElem_toArray, List.getElem_cons_zero, List.getElem_cons_succ]
  try have lx_r2 := r2.lt
  try have lx_m3 := m3.lt
  try have lx_r4 := r4.lt
  try have lx_c6 := c6.lt
  try have lx_ce := ce.lt
  refine wp_region_RL 11 [(1, detS ?v1_1), (6, detS ?v1_6), (8, detS ?v1_8)] (by kernel_rfl) (by kernel_rfl) (by kernel_rfl) ?_
  rotate_left 3
  simp only [takS, Nat.reduceAdd]
  refine wpRL_chunk 1 (by kernel_rfl) ?_
  simp only [takS, Nat.reduceAdd]
  repeat (first | go_big_quiet_skip | (go_big_quiet_want; first | (refine quiet_loadAny (t := 64) rfl _ _ _ rfl (fun w hw => run_load_imR (ov_B m3 w hw)) (by first | rfl | omega) ?_; simp only [Act.put, putS]; go_big_quiet_on) | (refine quiet_loadAny (t := 64) rfl _ _ _ rfl (fun w hw => run_load_B (ov_B c6 w hw) Try.isAgg64 (by kernel_rfl)) (by rfl) ?_; simp only [Act.put, putS]; go_big_quiet_on) | (go_big_quiet_op; go_big_quiet_on)))
  refine wpQuiet_nil ?_
  refine wpRL_callB (by rfl) (by first | rfl | simp [Region.wanted, yielded]) ?_ ?_
  · intro wn hbn hE Kx hKx
    have hsz := B.size
    have hzn := hbn.size
    replace B := B.trans (hbn.mono B.size)
    (try first | replace r2 := r2.of_eq (hbn.block _ r2.lt) | replace r2 := r2.below hbn)
    (try first | replace m3 := m3.of_eq (hbn.block _ m3.lt) | replace m3 := m3.below hbn)
    (try first | replace r4 := r4.of_eq (hbn.block _ r4.lt) | replace r4 := r4.below hbn)
    (try first | replace c6 := c6.of_eq (hbn.block _ c6.lt) | replace c6 := c6.below hbn)
    (try first | replace ce := ce.of_eq (hbn.block _ ce.lt) | replace ce := ce.below hbn)
    refine wp_callF rfl (enters_of Try.func91 (by kernel_rfl) rfl) (by simp only [List.map_toArray, List.map_cons, List.map_nil, Act.eval, Array.getD_eq_getD_getElem?, List.getElem?_toArray, List.getElem?_cons_succ, List.getElem?_cons_zero, Option.getD_some]; rfl) ?_
    refine (P_ValidRB c true _ HV.out).mono ?_
    rintro e wm ⟨rfl, hbm⟩
    refine ⟨_, rfl, ?_⟩
    have hz := hKx () wm trivial hbm
    dsimp only [detS] at hz
    exact hz
  rintro ⟨⟩
  dsimp only [detS]
  simp only [Act.put, putS]
  refine wpRL_chunk 4 (by kernel_rfl) ?_
  simp only [takS, Nat.reduceAdd]
  repeat (first | go_big_quiet_skip | (go_big_quiet_want; first | (refine quiet_loadAny (t := 66) rfl _ _ _ rfl (fun w hw => run_load_slp (imgC_u (ov_B m3 w hw))) (by first | rfl | omega) ?_; simp only [Act.put, putS]; go_big_quiet_on) | (go_big_quiet_op; go_big_quiet_on)))
  refine wpQuiet_nil ?_
  refine wpRL_callB (by rfl) (by first | rfl | simp [Region.wanted, yielded]) ?_ ?_
  · intro wn hbn hE Kx hKx
    have hsz := B.size
    have hzn := hbn.size
    replace B := B.trans (hbn.mono B.size)
    (try first | replace r2 := r2.of_eq (hbn.block _ r2.lt) | replace r2 := r2.below hbn)
    (try first | replace m3 := m3.of_eq (hbn.block _ m3.lt) | replace m3 := m3.below hbn)
    (try first | replace r4 := r4.of_eq (hbn.block _ r4.lt) | replace r4 := r4.below hbn)
    (try first | replace c6 := c6.of_eq (hbn.block _ c6.lt) | replace c6 := c6.below hbn)
    (try first | replace ce := ce.of_eq (hbn.block _ ce.lt) | replace ce := ce.below hbn)
    refine wp_lenS rfl Try.underlying66 rfl ?_
    exact hKx () _ trivial (Below.refl _ _)
  rintro ⟨⟩
  dsimp only [detS]
  simp only [Act.put, putS]
  refine wpRL_chunk 1 (by kernel_rfl) ?_
  simp only [takS, Nat.reduceAdd]
  repeat (first | go_big_quiet_skip | (go_big_quiet_want; first | (refine quiet_loadAny (t := 64) rfl _ _ _ rfl (fun w hw => run_load_imR (ov_B m3 w hw)) (by first | rfl | omega) ?_; simp only [Act.put, putS]; go_big_quiet_on) | (refine quiet_loadAny (t := 64) rfl _ _ _ rfl (fun w hw => run_load_B (ov_B c6 w hw) Try.isAgg64 (by kernel_rfl)) (by rfl) ?_; simp only [Act.put, putS]; go_big_quiet_on) | (go_big_quiet_op; go_big_quiet_on)))
  refine wpQuiet_nil ?_
  refine wpRL_callB (by rfl) (by first | rfl | simp [Region.wanted, yielded]) ?_ ?_
  · intro wn hbn hE Kx hKx
    have hsz := B.size
    have hzn := hbn.size
    replace B := B.trans (hbn.mono B.size)
    (try first | replace r2 := r2.of_eq (hbn.block _ r2.lt) | replace r2 := r2.below hbn)
    (try first | replace m3 := m3.of_eq (hbn.block _ m3.lt) | replace m3 := m3.below hbn)
    (try first | replace r4 := r4.of_eq (hbn.block _ r4.lt) | replace r4 := r4.below hbn)
    (try first | replace c6 := c6.of_eq (hbn.block _ c6.lt) | replace c6 := c6.below hbn)
    (try first | replace ce := ce.of_eq (hbn.block _ ce.lt) | replace ce := ce.below hbn)
    refine wp_callF rfl (enters_of Try.func78 (by kernel_rfl) rfl) (by simp only [List.map_toArray, List.map_cons, List.map_nil, Act.eval, Array.getD_eq_getD_getElem?, List.getElem?_toArray, List.getElem?_cons_succ, List.getElem?_cons_zero, Option.getD_some]; rfl) ?_
    refine (P_AreaB c (areaN c : Int) _ HV.out hAN.out).mono ?_
    rintro e wm ⟨rfl, hbm⟩
    refine ⟨_, rfl, ?_⟩
    have hz := hKx () wm trivial hbm
    dsimp only [detS] at hz
    exact hz
  rintro ⟨⟩
  dsimp only [detS]
  simp only [Act.put, putS]
  refine wpRL_chunk 2 (by kernel_rfl) ?_
  simp only [takS, Nat.reduceAdd]
  repeat (first | go_big_quiet_skip | (go_big_quiet_want; first | (go_big_quiet_op; go_big_quiet_on)))
  refine wpQuiet_nil ?_
  refine wpRL_nil ?_
  intro wn hbn hE
  have hsz := B.size
  have hzn := hbn.size
  replace B := B.trans (hbn.mono B.size)
  (try first | replace r2 := r2.of_eq (hbn.block _ r2.lt) | replace r2 := r2.below hbn)
  (try first | replace m3 := m3.of_eq (hbn.block _ m3.lt) | replace m3 := m3.below hbn)
  (try first | replace r4 := r4.of_eq (hbn.block _ r4.lt) | replace r4 := r4.below hbn)
  (try first | replace c6 := c6.of_eq (hbn.block _ c6.lt) | replace c6 := c6.below hbn)
  (try first | replace ce := ce.of_eq (hbn.block _ ce.lt) | replace ce := ce.below hbn)
  clear hE
  try simp only [List.drop_succ_cons, List.drop_zero]
  refine NoPan.normal ?_
  go_upto_region 4 with fail
  refine wp_region_lit ?_
  try simp only [List.getElem_toArray, List.getElem_cons_zero, List.getElem_cons_succ]
  refine wpList_chunk 1 (by kernel_rfl) ?_
  simp only [takS, Nat.reduceAdd]
  repeat (first | go_big_quiet_skip | (go_big_quiet_want; first | (refine quiet_loadAny (t := 64) rfl _ _ _ rfl (fun w hw => run_load_imR (ov_B m3 w hw)) (by first | rfl | omega) ?_; simp only [Act.put, putS]; go_big_quiet_on) | (refine quiet_loadAny (t := 64) rfl _ _ _ rfl (fun w hw => run_load_B (ov_B c6 w hw) Try.isAgg64 (by kernel_rfl)) (by rfl) ?_; simp only [Act.put, putS]; go_big_quiet_on) | (go_big_quiet_op; go_big_quiet_on)))
  refine wpQuiet_nil ?_
  refine wpList_callF (by first | rfl | simp [Region.wanted, yielded]) rfl (enters_of Try.func77 (by kernel_rfl) rfl) (by simp only [List.map_toArray, List.map_cons, List.map_nil, Act.eval, Array.getD_eq_getD_getElem?, List.getElem?_toArray, List.getElem?_cons_succ, List.getElem?_cons_zero, Option.getD_some]; rfl) ?_
  refine (P_fitsB c 0 _ HEE.out).mono ?_
  rintro e wn ⟨rfl, hbn⟩
  have hsz := B.size
  have hzn := hbn.size
  replace B := B.trans (hbn.mono B.size)
  (try first | replace r2 := r2.of_eq (hbn.block _ r2.lt) | replace r2 := r2.below hbn)
  (try first | replace m3 := m3.of_eq (hbn.block _ m3.lt) | replace m3 := m3.below hbn)
  (try first | replace r4 := r4.of_eq (hbn.block _ r4.lt) | replace r4 := r4.below hbn)
  (try first | replace c6 := c6.of_eq (hbn.block _ c6.lt) | replace c6 := c6.below hbn)
  (try first | replace ce := ce.of_eq (hbn.block _ ce.lt) | replace ce := ce.below hbn)
  refine ⟨_, rfl, ?_⟩
  simp only [Act.put, putS]
  refine wpList_chunk 1 (by kernel_rfl) ?_
  simp only [takS, Nat.reduceAdd]
  repeat (first | go_big_quiet_skip | (go_big_quiet_want; first | (go_big_quiet_op; go_big_quiet_on)))
  refine wpQuiet_nil ?_
  refine wpList_nil ?_
  go_upto_region 5 with fail
  refine wp_region_lit ?_
  try simp only [List.getElem_toArray, List.getElem_cons_zero, List.getElem_cons_succ]
  refine wpList_chunk 2 (by kernel_rfl) ?_
  simp only [takS, Nat.reduceAdd]
  repeat (first | go_big_quiet_skip | (go_big_quiet_want; first | (go_big_quiet_op; go_big_quiet_on)))
  refine wpQuiet_nil ?_
  refine wpList_nil ?_
  go_upto_region 7 with fail
  have rs1 := (HT.out _ B).2
  refine wp_region_lit ?_
  try simp only [List.getElem_toArray, List.getElem_cons_zero, List.getElem_cons_succ]
  refine wpList_chunk 1 (by kernel_rfl) ?_
  simp only [takS, Nat.reduceAdd]
  repeat (first | go_big_quiet_skip | (go_big_quiet_want; first | (refine quiet_loadAny (t := 30) rfl _ _ _ rfl (fun w hw => run_load_B (ov_B r2 w hw) Try.isAgg30 (by kernel_rfl)) (by rfl) ?_; simp only [Act.put, putS]; go_big_quiet_on) | (go_big_quiet_op; go_big_quiet_on)))
  refine wpQuiet_nil ?_
  refine wpList_callF (by first | rfl | simp [Region.wanted, yielded]) rfl (enters_of Try.func68 (by kernel_rfl) rfl) (by simp only [List.map_toArray, List.map_cons, List.map_nil, Act.eval, Array.getD_eq_getD_getElem?, List.getElem?_toArray, List.getElem?_cons_succ, List.getElem?_cons_zero, Option.getD_some]; rfl) ?_
  refine ((HT.out _ B).1).mono ?_
  rintro e wn ⟨rfl, hbn⟩
  have hsz := B.size
  have hzn := hbn.size
  replace B := B.trans (hbn.mono B.size)
  (try first | replace r2 := r2.of_eq (hbn.block _ r2.lt) | replace r2 := r2.below hbn)
  (try first | replace m3 := m3.of_eq (hbn.block _ m3.lt) | replace m3 := m3.below hbn)
  (try first | replace r4 := r4.of_eq (hbn.block _ r4.lt) | replace r4 := r4.below hbn)
  (try first | replace c6 := c6.of_eq (hbn.block _ c6.lt) | replace c6 := c6.below hbn)
  (try first | replace ce := ce.of_eq (hbn.block _ ce.lt) | replace ce := ce.below hbn)
  replace rs1 := rs1.below hbn
  refine ⟨_, rfl, ?_⟩
  simp only [Act.put, putS]
  (refine wpList_allocBk (t := 28) rfl _ (run_alloc_Sl _ _ rfl) ?_; intro b_l8 wn hle hge ht hbn hzn; have hsz := B.size; replace B := B.trans (hbn.mono (by omega)); have hln := Nat.lt_of_lt_of_eq (Nat.lt_succ_self _) hzn.symm; clear hzn; (try first | (have hlt := r2.lt; replace r2 := r2.of_eq (hbn.block _ (by omega))) | replace r2 := r2.below (hbn.mono hle)); (try first | (have hlt := m3.lt; replace m3 := m3.of_eq (hbn.block _ (by omega))) | replace m3 := m3.below (hbn.mono hle)); (try first | (have hlt := r4.lt; replace r4 := r4.of_eq (hbn.block _ (by omega))) | replace r4 := r4.below (hbn.mono hle)); (try first | (have hlt := c6.lt; replace c6 := c6.of_eq (hbn.block _ (by omega))) | replace c6 := c6.below (hbn.mono hle)); (try first | (have hlt := ce.lt; replace ce := ce.of_eq (hbn.block _ (by omega))) | replace ce := ce.below (hbn.mono hle)); (try first | (have hlt := rs1.lt; replace rs1 := rs1.of_eq (hbn.block _ (by omega))) | replace rs1 := rs1.below (hbn.mono hle)); have l8 := ht; clear ht; simp only [Act.put, putS])
  (refine wpList_storeSl rfl _ _ rfl _ rfl _ _ _ rfl l8 ?_; have l8o := l8; clear l8; intro wn ht hcn hzn; (try replace rs1 := rs1.chg l8o (by simp) hcn); have hsz := B.size; replace hzn := Nat.le_of_eq hzn.symm; replace B := Chg.below B hcn (by omega) B.size; (try replace r2 := r2.of_eq (hcn.block _ r2.lt (by omega))); (try replace m3 := m3.of_eq (hcn.block _ m3.lt (by omega))); (try replace r4 := r4.of_eq (hcn.block _ r4.lt (by omega))); (try replace c6 := c6.of_eq (hcn.block _ c6.lt (by omega))); (try replace ce := ce.of_eq (hcn.block _ ce.lt (by omega))); have l8 := ht; clear ht; simp only [Act.put, putS])
  refine wpList_nil ?_
  have k2 : w.heap.size ≤ b_r2 := by omega
  have k3 : b_r2 < b_m3 := by have := r2.lt; omega
  have k4 : b_m3 < b_r4 := by have := m3.lt; omega
  have k6 : b_r4 < b_c6 := by have := r4.lt; omega
  have k8 : b_c6 < b_l8 := by have := c6.lt; omega
  have k9 := l8.lt
  have kg := ce.lt
  go_upto_region 8 with fail
  refine wp_region_lit ?_
  try simp only [List.getElem_toArray, List.getElem_cons_zero, List.getElem_cons_succ]
  refine wpList_chunk 1 (by kernel_rfl) ?_
  simp only [takS, Nat.reduceAdd]
  repeat (first | go_big_quiet_skip | (go_big_quiet_want; first | (refine quiet_loadAny (t := 64) rfl _ _ _ rfl (fun w hw => run_load_imR (ov_B m3 w hw)) (by first | rfl | omega) ?_; simp only [Act.put, putS]; go_big_quiet_on) | (refine quiet_loadAny (t := 64) rfl _ _ _ rfl (fun w hw => run_load_B (ov_B c6 w hw) Try.isAgg64 (by kernel_rfl)) (by rfl) ?_; simp only [Act.put, putS]; go_big_quiet_on) | (go_big_quiet_op; go_big_quiet_on)))
  refine wpQuiet_nil ?_
  refine wpList_callF (by first | rfl | simp [Region.wanted, yielded]) rfl (enters_of Try.func92 (by kernel_rfl) rfl) (by simp only [List.map_toArray, List.map_cons, List.map_nil, Act.eval, Array.getD_eq_getD_getElem?, List.getElem?_toArray, List.getElem?_cons_succ, List.getElem?_cons_zero, Option.getD_some]; rfl) ?_
  refine (P_Tiles c _).mono ?_
  rintro e wn ⟨b_t, rfl, hbt, rt, hbn⟩
  have hsz := B.size
  have hzn := hbn.size
  replace B := B.trans (hbn.mono B.size)
  (try first | replace r2 := r2.of_eq (hbn.block _ r2.lt) | replace r2 := r2.below hbn)
  (try first | replace m3 := m3.of_eq (hbn.block _ m3.lt) | replace m3 := m3.below hbn)
  (try first | replace r4 := r4.of_eq (hbn.block _ r4.lt) | replace r4 := r4.below hbn)
  (try first | replace c6 := c6.of_eq (hbn.block _ c6.lt) | replace c6 := c6.below hbn)
  (try first | replace ce := ce.of_eq (hbn.block _ ce.lt) | replace ce := ce.below hbn)
  (try first | replace l8 := l8.of_eq (hbn.block _ l8.lt) | replace l8 := l8.below hbn)
  (try first | replace rs1 := rs1.of_eq (hbn.block _ rs1.lt) | replace rs1 := rs1.below hbn)
  refine ⟨_, rfl, ?_⟩
  simp only [Act.put, putS]
  refine wpList_nil ?_
  go_wp2
  refine (wpIn_wide (n := 3)).1 ?_
  refine rangeFunc_made (F := Fence.wide) rfl (by omega) (gf := 108) (lb := #[.pointer (some ⟨b_t, 0, none⟩)]) rfl trivial (enters_of Try.func108 (by kernel_rfl) rfl) (tiles_stops c FT.out b_t b_l8 _ (by omega) _ rt l8.lt) (fun h k => KpB.trans h k) (fun W l o o' _ hl ho _ => KpB.putObj b_l8 o' hl ho) (fun A B h => KpB.below h) (Below.refl _ _) (fun _ => rfl)
    (fun pre W => ∃ (a : Option Addr) (cp : Nat), AtB 28 W b_l8 #[.slice a (pstL c L KS (pre.map (posF c))).length cp] ∧ RS (.slice a (pstL c L KS (pre.map (posF c))).length cp) (pstL c L KS (pre.map (posF c))) W ∧ AtB 68 W b_m3 (imgC c (.slice (some ⟨g, o, none⟩) (areaN c) cu)) ∧ AtB 64 W b_c6 (rcA c) ∧ AtB 30 W b_r4 #[.slice none 0 0] ∧ RCellsE pxE g o L W ∧ Below w.heap.size w W)
    (fun pre W W' row hI hg hr => ?own)
    ⟨a', c', l8, rs1, m3, c6, r4, ce, B⟩
    (fun x a' W => ∃ b9 : Nat, a'.defers = [] ∧ a'.tmps.size = 78 ∧ a'.tmps.getD 3 undef = .pointer (some ⟨b_m3, 0, none⟩) ∧ a'.tmps.getD 6 undef = .pointer (some ⟨b_c6, 0, none⟩) ∧ a'.tmps.getD 8 undef = .pointer (some ⟨b_l8, 0, none⟩) ∧ a'.tmps.getD 9 undef = .pointer (some ⟨b9, 0, none⟩) ∧ AtB 24 W b9 #[.int .i64 (posF c x).1, .int .i64 (posF c x).2] ∧ b_l8 < b9)
    (fun x a' W W' row hA hg hr => ?own2) ?assign ?body ?done
  case own =>
    obtain ⟨a, cp, h1, h2, h3, h4, h5, h6, h7⟩ := hI
    have hr' : ∀ r, row = some r → ∃ o : Obj, W.heap[r]? = some o ∧ o.isCells = false := fun r e => (hr r e).2
    have hsz1 := B.size
    exact ⟨a, cp, h1.own hg hr', h2.own hg hr', h3.own hg hr', h4.own hg hr', h5.own hg hr', h6.ownP (by rw [HL.out]; omega) hg hr', below_own h7 h7.size hg (fun r e => Nat.le_trans hsz1 (hr r e).1)⟩
  case own2 =>
    obtain ⟨b9, e1, e2, e3, e4, e5, e6, h1, h2⟩ := hA
    exact ⟨b9, e1, e2, e3, e4, e5, e6, h1.own hg (fun r e => (hr r e).2), h2⟩
  case assign =>
    intro l pre x W K ⟨_, _, hl8, _⟩ hK
    have B := Below.refl W.heap.size W
    have hl := hl8.lt
    obtain ⟨⟨X, Y⟩, hxy⟩ : ∃ p, posF c x = p := ⟨_, rfl⟩
    rw [hxy] at hK
    dsimp only at hK
    rw [hxy]
    dsimp only
    refine zip1_wp ?_
    simp only [List.setIfInBounds_toArray, List.set_cons_succ, List.set_cons_zero]
    refine round_lit (by kernel_rfl) ?_
    try simp only [List.getElem_toArray, List.getElem_cons_zero, List.getElem_cons_succ]
    (refine wpList_allocBk (t := 24) rfl _ (run_alloc_Ps _ _ rfl) ?_; intro b_p9 wn hle hge ht hbn hzn; have hsz := B.size; replace B := B.trans (hbn.mono (by omega)); have hln := Nat.lt_of_lt_of_eq (Nat.lt_succ_self _) hzn.symm; clear hzn; have p9 := ht; clear ht; simp only [Act.put, putS])
    (refine wpList_storeB (t := 24) rfl _ _ rfl _ rfl _ rfl p9 (by kernel_rfl) rfl (by simp [Value.oneCell']) ?_; clear p9; intro wn ht hcn hzn; have hsz := B.size; replace hzn := Nat.le_of_eq hzn.symm; replace B := Chg.below B hcn (by omega) B.size; have p9 := ht; clear ht; simp only [Act.put, putS])
    refine wpList_nil ?_
    refine Only.at ?_
    refine hK _ _ B ⟨_, rfl, rfl, rfl, rfl, rfl, rfl, p9, by omega⟩
  case body =>
    rintro l pre x W ⟨tm, df⟩ ⟨a, cp, l8, rs1, m3, c6, r4, ce, BW⟩ ⟨b9, e1, e2, e3, e4, e5, e6, p9, k10⟩ hpre
    obtain ⟨U, hU, hUi⟩ := arr_fn tm 78 e2
    rw [← hUi] at e3 e4 e5 e6
    have eL : ((List.range 78).map U).toArray = #[U 0, U 1, U 2, U 3, U 4, U 5, U 6, U 7, U 8, U 9, U 10, U 11, U 12, U 13, U 14, U 15, U 16, U 17, U 18, U 19, U 20, U 21, U 22, U 23, U 24, U 25, U 26, U 27, U 28, U 29, U 30, U 31, U 32, U 33, U 34, U 35, U 36, U 37, U 38, U 39, U 40, U 41, U 42, U 43, U 44, U 45, U 46, U 47, U 48, U 49, U 50, U 51, U 52, U 53, U 54, U 55, U 56, U 57, U 58, U 59, U 60, U 61, U 62, U 63, U 64, U 65, U 66, U 67, U 68, U 69, U 70, U 71, U 72, U 73, U 74, U 75, U 76, U 77] := rfl
    rw [eL] at hU
    rw [e3, e4, e5, e6] at hU
    subst hU
    have e1 : df = [] := e1
    subst e1
    clear e2 e3 e4 e5 e6 hUi eL
    obtain ⟨⟨X, Y⟩, hxy⟩ : ∃ p, posF c x = p := ⟨_, rfl⟩
    have hwi := posP_in FT.out x.isLt
    rw [show posP c x.val = (X, Y) from hxy] at hwi
    have HWI := Lib.hid hwi
    rw [hxy] at p9
    dsimp only at p9
    have hMn := pstL_len c L (pre.map (posF c)) KS
    rw [List.length_map] at hMn
    have SM0 := pstL_srt c L (pre.map (posF c)) KS SR.out
    have TM0 := pstL_tok OK.out (pre.map (posF c)) KS TK.out (c := c)
    have HNEW0 : pstL c L KS ((pre ++ [x]).map (posF c)) = putL (pstL c L KS (pre.map (posF c))) X Y (pstT c L X Y (tileL (pstL c L KS (pre.map (posF c))) X Y)) := by
      rw [List.map_append, show [x].map (posF c) = [(X, Y)] from by rw [← hxy]; rfl, pstL_snoc]
      rfl
    generalize pstL c L KS (pre.map (posF c)) = M at *
    have SM := Lib.hid SM0
    have TM := Lib.hid TM0
    have HNEW := Lib.hid HNEW0
    have L8 := Lib.hid l8
    have HTK := Lib.hid (tileL_tok TM0 X Y)
    have HTT := Lib.hid (pstT_tok OK.out X Y (tileL_tok TM0 X Y) (c := c))
    have hM3 : M.length ≤ 3000 := by omega
    have hws := BW.size
    have l8lt := l8.lt
    have m3lt := m3.lt
    have c6lt := c6.lt
    have r4lt := r4.lt
    have p9lt := p9.lt
    have hpl := putL_length M X Y (pstT c L X Y (tileL M X Y))
    obtain ⟨_, _, e1, hcp⟩ := rs1.len
    simp only [Value.slice.injEq] at e1
    obtain ⟨rfl, _, rfl⟩ := e1
    have RS1W := Lib.hid rs1
    have B := Exc.refl b_l8 W
    clear SM0 TM0 HNEW0 hMn hwi hxy
    cases hh : hitL M X Y with
    | true =>
      have HH := Lib.hid hh
      obtain ⟨hc1, hc2⟩ := hit_at SM.out hh
      obtain ⟨k, hk⟩ : ∃ k, cutL M X Y = k := ⟨_, rfl⟩
      rw [hk] at hc1 hc2
      have HK := Lib.hid hk
      obtain ⟨gg, oo, rfl, rc⟩ := rs1.at (by omega)
      have HC2 := Lib.hid hc2
      clear hh hk hc2
      gi_upto_region 10 with fail
      refine round_lit (by kernel_rfl) ?_
      try simp only [List.getElem_toArray, List.getElem_cons_zero, List.getElem_cons_succ]
      refine wpList_chunk 2 (by kernel_rfl) ?_
      simp only [takS, Nat.reduceAdd]
      repeat (first | go_big_quiet_skip | (go_big_quiet_want; first | (refine quiet_loadAny (t := 28) rfl _ _ _ rfl (fun w hw => run_load_sl ((ov_B l8 w hw).cellL 0 rfl)) (by rfl) ?_; simp only [Act.put, putS]; go_big_quiet_on) | (refine quiet_loadAny (t := 24) rfl _ _ _ rfl (fun w hw => run_load_B (ov_B p9 w hw) Try.isAgg24 (by kernel_rfl)) (by rfl) ?_; simp only [Act.put, putS]; go_big_quiet_on) | (refine quiet_buildTA0 rfl X Y rfl ?_; simp only [Act.put, putS]; go_big_quiet_on) | (go_big_quiet_op; go_big_quiet_on)))
      refine wpQuiet_nil ?_
      refine wpList_callF (by first | rfl | simp [Region.wanted, yielded]) rfl (enters_of Try.func93 (by kernel_rfl) rfl) (by simp only [List.map_toArray, List.map_cons, List.map_nil, Act.eval, Array.getD_eq_getD_getElem?, List.getElem?_toArray, List.getElem?_cons_succ, List.getElem?_cons_zero, Option.getD_some]; rfl) ?_
      refine (P_findB _ M X Y k true _ rs1 SM.out (by omega) HK.out HH.out).mono ?_
      rintro e wn ⟨rfl, hbn⟩
      have hsz := B.size
      have hzn := hbn.size
      replace B := B.trans (hbn.mono B.size)
      (try first | replace l8 := l8.of_eq (hbn.block _ l8.lt) | replace l8 := l8.below hbn)
      (try first | replace m3 := m3.of_eq (hbn.block _ m3.lt) | replace m3 := m3.below hbn)
      (try first | replace c6 := c6.of_eq (hbn.block _ c6.lt) | replace c6 := c6.below hbn)
      (try first | replace r4 := r4.of_eq (hbn.block _ r4.lt) | replace r4 := r4.below hbn)
      (try first | replace ce := ce.of_eq (hbn.block _ ce.lt) | replace ce := ce.below hbn)
      (try first | replace p9 := p9.of_eq (hbn.block _ p9.lt) | replace p9 := p9.below hbn)
      (try first | replace rs1 := rs1.of_eq (hbn.block _ rs1.lt) | replace rs1 := rs1.below hbn)
      refine ⟨_, rfl, ?_⟩
      simp only [Act.put, putS]
      refine wpList_chunk 5 (by kernel_rfl) ?_
      simp only [takS, Nat.reduceAdd]
      repeat (first | go_big_quiet_skip | (go_big_quiet_want; first | (refine quiet_buildTA0 rfl X Y rfl ?_; simp only [Act.put, putS]; go_big_quiet_on) | (go_big_quiet_op; go_big_quiet_on)))
      refine wpQuiet_nil ?_
      refine wpList_nil ?_
      refine Only.at ?_
      try dsimp only
      gi_upto_region 11 with fail
      refine round_lit (by kernel_rfl) ?_
      try simp only [List.getElem_toArray, List.getElem_cons_zero, List.getElem_cons_succ]
      refine wpList_chunk 2 (by kernel_rfl) ?_
      simp only [takS, Nat.reduceAdd]
      repeat (first | go_big_quiet_skip | (go_big_quiet_want; first | (refine quiet_loadAny (t := 24) rfl _ _ _ rfl (fun w hw => run_load_B (ov_B p9 w hw) Try.isAgg24 (by kernel_rfl)) (by rfl) ?_; simp only [Act.put, putS]; go_big_quiet_on) | (refine quiet_buildTA0 rfl X Y rfl ?_; simp only [Act.put, putS]; go_big_quiet_on) | (go_big_quiet_op; go_big_quiet_on)))
      refine wpQuiet_nil ?_
      (refine wpList_bs1T rfl _ rfl ⟨X, Y, zT⟩ (by rfl) ?_; intro b_s1 wn hle hge ht hbn hzn; have hsz := B.size; replace B := B.trans (hbn.mono (by omega)); have hln := Nat.lt_of_lt_of_eq (Nat.lt_succ_self _) hzn.symm; clear hzn; (try first | (have hlt := l8.lt; replace l8 := l8.of_eq (hbn.block _ (by omega))) | replace l8 := l8.below (hbn.mono hle)); (try first | (have hlt := m3.lt; replace m3 := m3.of_eq (hbn.block _ (by omega))) | replace m3 := m3.below (hbn.mono hle)); (try first | (have hlt := c6.lt; replace c6 := c6.of_eq (hbn.block _ (by omega))) | replace c6 := c6.below (hbn.mono hle)); (try first | (have hlt := r4.lt; replace r4 := r4.of_eq (hbn.block _ (by omega))) | replace r4 := r4.below (hbn.mono hle)); (try first | (have hlt := ce.lt; replace ce := ce.of_eq (hbn.block _ (by omega))) | replace ce := ce.below (hbn.mono hle)); (try first | (have hlt := p9.lt; replace p9 := p9.of_eq (hbn.block _ (by omega))) | replace p9 := p9.below (hbn.mono hle)); (try first | (have hlt := rs1.lt; replace rs1 := rs1.of_eq (hbn.block _ (by omega))) | replace rs1 := rs1.below (hbn.mono hle)); have s1 := ht; clear ht; simp only [Act.put, putS])
      refine wpList_chunk 1 (by kernel_rfl) ?_
      simp only [takS, Nat.reduceAdd]
      repeat (first | go_big_quiet_skip | (go_big_quiet_want; first | (refine quiet_buildTA0 rfl X Y rfl ?_; simp only [Act.put, putS]; go_big_quiet_on) | (go_big_quiet_op; go_big_quiet_on)))
      refine wpQuiet_nil ?_
      refine wpList_nil ?_
      refine Only.at ?_
      try dsimp only
      gi_upto_region 12 with fail
      refine round_lit (by kernel_rfl) ?_
      try simp only [List.getElem_toArray, List.getElem_cons_zero, List.getElem_cons_succ]
      refine wpList_chunk 1 (by kernel_rfl) ?_
      simp only [takS, Nat.reduceAdd]
      repeat (first | go_big_quiet_skip | (go_big_quiet_want; first | (refine quiet_buildTA0 rfl X Y rfl ?_; simp only [Act.put, putS]; go_big_quiet_on) | (go_big_quiet_op; go_big_quiet_on)))
      refine wpQuiet_nil ?_
      refine wpList_nil ?_
      refine Only.at ?_
      try dsimp only
      gi_upto_region 13 with fail
      refine round_lit (by kernel_rfl) ?_
      try simp only [List.getElem_toArray, List.getElem_cons_zero, List.getElem_cons_succ]
      refine wpList_chunk 8 (by kernel_rfl) ?_
      simp only [takS, Nat.reduceAdd]
      repeat (first | go_big_quiet_skip | (go_big_quiet_want; first | (refine quiet_loadAny (t := 28) rfl _ _ _ rfl (fun w hw => run_load_sl ((ov_B l8 w hw).cellL 0 rfl)) (by rfl) ?_; simp only [Act.put, putS]; go_big_quiet_on) | (refine quiet_buildTA0 rfl X Y rfl ?_; simp only [Act.put, putS]; go_big_quiet_on) | (go_big_quiet_op; go_big_quiet_on)))
      refine wpQuiet_nil ?_
      refine wpList_nil ?_
      refine Only.at ?_
      try dsimp only
      obtain ⟨g2, o2, e2, rc'⟩ := rs1.at (by omega)
      obtain ⟨rfl, rfl⟩ : gg = g2 ∧ oo = o2 := by simpa using e2
      have rsm := rs_mid rc' hc1
      rw [HC2.out] at rsm
      have rsm0 := rsm
      gi_upto_region 14 with fail
      refine round_lit (by kernel_rfl) ?_
      try simp only [List.getElem_toArray, List.getElem_cons_zero, List.getElem_cons_succ]
      (refine wpList_allocT' rfl rfl ?_; intro b_t13 wn hle hge ht hbn hzn; have hsz := B.size; replace B := B.trans (hbn.mono (by omega)); have hln := Nat.lt_of_lt_of_eq (Nat.lt_succ_self _) hzn.symm; clear hzn; (try first | (have hlt := l8.lt; replace l8 := l8.of_eq (hbn.block _ (by omega))) | replace l8 := l8.below (hbn.mono hle)); (try first | (have hlt := m3.lt; replace m3 := m3.of_eq (hbn.block _ (by omega))) | replace m3 := m3.below (hbn.mono hle)); (try first | (have hlt := c6.lt; replace c6 := c6.of_eq (hbn.block _ (by omega))) | replace c6 := c6.below (hbn.mono hle)); (try first | (have hlt := r4.lt; replace r4 := r4.of_eq (hbn.block _ (by omega))) | replace r4 := r4.below (hbn.mono hle)); (try first | (have hlt := ce.lt; replace ce := ce.of_eq (hbn.block _ (by omega))) | replace ce := ce.below (hbn.mono hle)); (try first | (have hlt := p9.lt; replace p9 := p9.of_eq (hbn.block _ (by omega))) | replace p9 := p9.below (hbn.mono hle)); (try first | (have hlt := rs1.lt; replace rs1 := rs1.of_eq (hbn.block _ (by omega))) | replace rs1 := rs1.below (hbn.mono hle)); (try first | (have hlt := rsm.lt; replace rsm := rsm.of_eq (hbn.block _ (by omega))) | replace rsm := rsm.below (hbn.mono hle)); have t13 := ht; clear ht; simp only [Act.put, putS])
      refine wpList_nil ?_
      refine Only.at ?_
      try dsimp only
      have HSEP := Lib.hid (rs_sep rsm0 hle (by simp))
      clear rsm0
      gi_upto_region 15 with fail
      refine round_lit (by kernel_rfl) ?_
      try simp only [List.getElem_toArray, List.getElem_cons_zero, List.getElem_cons_succ]
      refine wpList_chunk 1 (by kernel_rfl) ?_
      simp only [takS, Nat.reduceAdd]
      repeat (first | go_big_quiet_skip | (go_big_quiet_want; first | (refine quiet_buildTA0 rfl X Y rfl ?_; simp only [Act.put, putS]; go_big_quiet_on) | (go_big_quiet_op; go_big_quiet_on)))
      refine wpQuiet_nil ?_
      (refine wpList_val rfl (.func (.func 94) #[] #[.pointer (some ⟨b_c6, 0, none⟩), .pointer (some ⟨b_m3, 0, none⟩)]) (by first | rfl | simp [go_sem, Act.eval]) ?_; simp only [Act.put, putS])
      refine wpList_callF (by first | rfl | simp [Region.wanted, yielded]) rfl (enters_of Try.func79 (by kernel_rfl) rfl) (by simp only [List.map_toArray, List.map_cons, List.map_nil, Act.eval, Array.getD_eq_getD_getElem?, List.getElem?_toArray, List.getElem?_cons_succ, List.getElem?_cons_zero, Option.getD_some]; rfl) ?_
      refine (P_mapPst c FT.out L HL.out OK.out ⟨X, Y, tileL M X Y⟩ _ _ b_c6 b_m3 b_t13 g o cu _ _ rsm HTK.out HWI.out c6 m3 ce t13 HSEP.out).mono ?_
      rintro e wn ⟨a5, cp5, rfl, rs5, hbn⟩
      have hsz := B.size
      have hzn := hbn.size
      replace B := B.trans (hbn.mono B.size)
      (try first | replace l8 := l8.of_eq (hbn.block _ l8.lt) | replace l8 := l8.below hbn)
      (try first | replace m3 := m3.of_eq (hbn.block _ m3.lt) | replace m3 := m3.below hbn)
      (try first | replace c6 := c6.of_eq (hbn.block _ c6.lt) | replace c6 := c6.below hbn)
      (try first | replace r4 := r4.of_eq (hbn.block _ r4.lt) | replace r4 := r4.below hbn)
      (try first | replace ce := ce.of_eq (hbn.block _ ce.lt) | replace ce := ce.below hbn)
      (try first | replace p9 := p9.of_eq (hbn.block _ p9.lt) | replace p9 := p9.below hbn)
      (try first | replace t13 := t13.of_eq (hbn.block _ t13.lt) | replace t13 := t13.below hbn)
      (try first | replace rs1 := rs1.of_eq (hbn.block _ rs1.lt) | replace rs1 := rs1.below hbn)
      (try first | replace rsm := rsm.of_eq (hbn.block _ rsm.lt) | replace rsm := rsm.below hbn)
      refine ⟨_, rfl, ?_⟩
      simp only [Act.put, putS]
      refine wpList_lenS (by first | rfl | simp [Region.wanted, yielded]) rfl Try.underlying28 rfl ?_
      simp only [Act.put, putS]
      refine wpList_chunk 1 (by kernel_rfl) ?_
      simp only [takS, Nat.reduceAdd]
      repeat (first | go_big_quiet_skip | (go_big_quiet_want; first | (refine quiet_buildTA0 rfl X Y rfl ?_; simp only [Act.put, putS]; go_big_quiet_on) | (go_big_quiet_op; go_big_quiet_on)))
      refine wpQuiet_nil ?_
      refine wpList_nil ?_
      refine Only.at ?_
      try dsimp only
      clear rsm HSEP
      cases hz : zeroB (pstT c L X Y (tileL M X Y)) with
      | true =>
        have HN : newA X Y (pstT c L X Y (tileL M X Y)) = [] := by unfold newA; rw [hz]; rfl
        rw [HN] at rs5
        simp only [HN, List.length_nil]
        clear rs5 HN
        have HZ := Lib.hid hz
        clear hz
        gi_wp2
        refine wpIn_loop_rounds 2 ?_
        rw [roundsIn_succ]
        gi_upto_region 16 with fail
        refine round_lit (by kernel_rfl) ?_
        try simp only [List.getElem_toArray, List.getElem_cons_zero, List.getElem_cons_succ]
        refine wpList_chunk 1 (by kernel_rfl) ?_
        simp only [takS, Nat.reduceAdd]
        repeat (first | go_big_quiet_skip | (go_big_quiet_want; first | (refine quiet_buildTA0 rfl X Y rfl ?_; simp only [Act.put, putS]; go_big_quiet_on) | (go_big_quiet_op; go_big_quiet_on)))
        refine wpQuiet_nil ?_
        refine wpList_nil ?_
        refine Only.at ?_
        try dsimp only
        clear rs1
        have rs1 := RS1W.out.chg L8.out (by simp) B.toChg
        gi_upto_region 20 with fail
        refine round_lit (by kernel_rfl) ?_
        try simp only [List.getElem_toArray, List.getElem_cons_zero, List.getElem_cons_succ]
        refine wpList_chunk 3 (by kernel_rfl) ?_
        simp only [takS, Nat.reduceAdd]
        repeat (first | go_big_quiet_skip | (go_big_quiet_want; first | (refine quiet_loadAny (t := 28) rfl _ _ _ rfl (fun w hw => run_load_sl ((ov_B l8 w hw).cellL 0 rfl)) (by rfl) ?_; simp only [Act.put, putS]; go_big_quiet_on) | (refine quiet_loadAny (t := 24) rfl _ _ _ rfl (fun w hw => run_load_B (ov_B p9 w hw) Try.isAgg24 (by kernel_rfl)) (by rfl) ?_; simp only [Act.put, putS]; go_big_quiet_on) | (refine quiet_buildTA0 rfl X Y rfl ?_; simp only [Act.put, putS]; go_big_quiet_on) | (refine quiet_loadT rfl _ rfl (ov_tile t13) ?_; simp only [Act.put, putS]; go_big_quiet_on) | (refine quiet_loadAny (t := 40) rfl _ _ _ rfl (fun w hw => ta_tile (ov_B t15 w hw)) (by first | rfl | omega) ?_; simp only [Act.put, putS]; go_big_quiet_on) | (go_big_quiet_op; go_big_quiet_on)))
        refine wpQuiet_nil ?_
        refine wpList_callF (by first | rfl | simp [Region.wanted, yielded]) rfl (enters_of Try.func73 (by kernel_rfl) rfl) (by simp only [List.map_toArray, List.map_cons, List.map_nil, Act.eval, Array.getD_eq_getD_getElem?, List.getElem?_toArray, List.getElem?_cons_succ, List.getElem?_cons_zero, Option.getD_some]; rfl) ?_
        refine (P_with _ M X Y (fun _ => Px.zero) _ rs1 SM.out (fun i _ => Px.zero_ok) (by omega)).mono ?_
        rintro e wn ⟨v8, rfl, rs8, hbn⟩
        have hsz := B.size
        have hzn := hbn.size
        replace B := B.trans (hbn.mono B.size)
        (try first | replace l8 := l8.of_eq (hbn.block _ l8.lt) | replace l8 := l8.below hbn)
        (try first | replace m3 := m3.of_eq (hbn.block _ m3.lt) | replace m3 := m3.below hbn)
        (try first | replace c6 := c6.of_eq (hbn.block _ c6.lt) | replace c6 := c6.below hbn)
        (try first | replace r4 := r4.of_eq (hbn.block _ r4.lt) | replace r4 := r4.below hbn)
        (try first | replace ce := ce.of_eq (hbn.block _ ce.lt) | replace ce := ce.below hbn)
        (try first | replace p9 := p9.of_eq (hbn.block _ p9.lt) | replace p9 := p9.below hbn)
        (try first | replace t13 := t13.of_eq (hbn.block _ t13.lt) | replace t13 := t13.below hbn)
        (try first | replace t15 := t15.of_eq (hbn.block _ t15.lt) | replace t15 := t15.below hbn)
        (try first | replace rs1 := rs1.of_eq (hbn.block _ rs1.lt) | replace rs1 := rs1.below hbn)
        (try first | replace rsm := rsm.of_eq (hbn.block _ rsm.lt) | replace rsm := rsm.below hbn)
        obtain ⟨a8, c8, rfl, hc8⟩ := rs8.len
        refine ⟨_, rfl, ?_⟩
        simp only [Act.put, putS]
        (refine wpList_storeSl rfl _ _ rfl _ rfl _ _ _ rfl l8 ?_; have l8o := l8; clear l8; intro wn ht hcn hzn; (try replace rs8 := rs8.chg l8o (by simp) hcn); have hsz := B.size; replace hzn := Nat.le_of_eq hzn.symm; replace B := Exc.chg B hcn; (try replace m3 := m3.of_eq (hcn.block _ m3.lt (by omega))); (try replace c6 := c6.of_eq (hcn.block _ c6.lt (by omega))); (try replace r4 := r4.of_eq (hcn.block _ r4.lt (by omega))); (try replace ce := ce.of_eq (hcn.block _ ce.lt (by omega))); (try replace p9 := p9.of_eq (hcn.block _ p9.lt (by omega))); (try replace t13 := t13.of_eq (hcn.block _ t13.lt (by omega))); (try replace t15 := t15.of_eq (hcn.block _ t15.lt (by omega))); have l8 := ht; clear ht; simp only [Act.put, putS])
        refine wpList_nil ?_
        refine Only.at ?_
        try dsimp only
        gi_wp2
        refine ⟨KeepsOthers.chgB B.toChg L8.out, KpB.chg B.toChg, ?_⟩
        dsimp only
        rw [HNEW.out]
        have e := putL_zero M X Y (t := fun _ => Px.zero) (u := pstT c L X Y (tileL M X Y)) ((zeroB_iff _).2 fun _ _ => rfl) HZ.out
        rw [e] at rs8 l8
        exact ⟨a8, c8, l8, rs8, m3, c6, r4, ce, Chg.below BW B.toChg (by omega) BW.size⟩
      | false =>
        have HN : newA X Y (pstT c L X Y (tileL M X Y)) = [⟨X, Y, pstT c L X Y (tileL M X Y)⟩] := by unfold newA; rw [hz]; rfl
        rw [HN] at rs5
        simp only [HN, List.length_cons, List.length_nil, Nat.zero_add]
        obtain ⟨g5, o5, rfl, rc5⟩ := rs5.at (by simp)
        clear rs5 HN hz
        have hlen1 : 0 < [(⟨X, Y, pstT c L X Y (tileL M X Y)⟩ : TA)].length := by simp
        gi_wp2
        refine wpIn_loop_rounds 2 ?_
        rw [roundsIn_succ]
        gi_upto_region 16 with fail
        refine round_lit (by kernel_rfl) ?_
        try simp only [List.getElem_toArray, List.getElem_cons_zero, List.getElem_cons_succ]
        refine wpList_chunk 1 (by kernel_rfl) ?_
        simp only [takS, Nat.reduceAdd]
        repeat (first | go_big_quiet_skip | (go_big_quiet_want; first | (refine quiet_buildTA0 rfl X Y rfl ?_; simp only [Act.put, putS]; go_big_quiet_on) | (go_big_quiet_op; go_big_quiet_on)))
        refine wpQuiet_nil ?_
        refine wpList_nil ?_
        refine Only.at ?_
        try dsimp only
        gi_upto_region 17 with fail
        refine round_lit (by kernel_rfl) ?_
        try simp only [List.getElem_toArray, List.getElem_cons_zero, List.getElem_cons_succ]
        refine wpList_chunk 2 (by kernel_rfl) ?_
        simp only [takS, Nat.reduceAdd]
        repeat (first | go_big_quiet_skip | (go_big_quiet_want; first | (refine quiet_buildTA0 rfl X Y rfl ?_; simp only [Act.put, putS]; go_big_quiet_on) | (refine quiet_loadAny (t := 79) rfl _ _ _ rfl (fun w hw => rc_ta (ov_rc rc5 w hw) hlen1 rfl) (by first | rfl | omega) ?_; simp only [Act.put, putS]; go_big_quiet_on) | (go_big_quiet_op; go_big_quiet_on)))
        refine wpQuiet_nil ?_
        (refine wpList_allocBk (t := 79) rfl _ (run_alloc_TA _ _ rfl) ?_; intro b_t15 wn hle hge ht hbn hzn; have hsz := B.size; replace B := B.trans (hbn.mono (by omega)); have hln := Nat.lt_of_lt_of_eq (Nat.lt_succ_self _) hzn.symm; clear hzn; (try first | (have hlt := l8.lt; replace l8 := l8.of_eq (hbn.block _ (by omega))) | replace l8 := l8.below (hbn.mono hle)); (try first | (have hlt := m3.lt; replace m3 := m3.of_eq (hbn.block _ (by omega))) | replace m3 := m3.below (hbn.mono hle)); (try first | (have hlt := c6.lt; replace c6 := c6.of_eq (hbn.block _ (by omega))) | replace c6 := c6.below (hbn.mono hle)); (try first | (have hlt := r4.lt; replace r4 := r4.of_eq (hbn.block _ (by omega))) | replace r4 := r4.below (hbn.mono hle)); (try first | (have hlt := ce.lt; replace ce := ce.of_eq (hbn.block _ (by omega))) | replace ce := ce.below (hbn.mono hle)); (try first | (have hlt := p9.lt; replace p9 := p9.of_eq (hbn.block _ (by omega))) | replace p9 := p9.below (hbn.mono hle)); (try first | (have hlt := t13.lt; replace t13 := t13.of_eq (hbn.block _ (by omega))) | replace t13 := t13.below (hbn.mono hle)); (try first | (have hlt := t15.lt; replace t15 := t15.of_eq (hbn.block _ (by omega))) | replace t15 := t15.below (hbn.mono hle)); (try first | (have hlt := rs1.lt; replace rs1 := rs1.of_eq (hbn.block _ (by omega))) | replace rs1 := rs1.below (hbn.mono hle)); (try first | (have hlt := rsm.lt; replace rsm := rsm.of_eq (hbn.block _ (by omega))) | replace rsm := rsm.below (hbn.mono hle)); (try first | (have hlt := rc5.lt; replace rc5 := rc5.of_eq (hbn.block _ (by omega))) | replace rc5 := rc5.below (hbn.mono hle)); have t15 := ht; clear ht; simp only [Act.put, putS])
        (refine wpList_storeB (t := 79) rfl _ _ rfl _ rfl _ rfl t15 (by rw [size_taC]; kernel_rfl) (by simp only [size_taC, size_zTA]) (taC_all _) ?_; clear t15; intro wn ht hcn hzn; have hsz := B.size; replace hzn := Nat.le_of_eq hzn.symm; replace B := Exc.store B hcn (by omega); (try replace l8 := l8.of_eq (hcn.block _ l8.lt (by omega))); (try replace m3 := m3.of_eq (hcn.block _ m3.lt (by omega))); (try replace c6 := c6.of_eq (hcn.block _ c6.lt (by omega))); (try replace r4 := r4.of_eq (hcn.block _ r4.lt (by omega))); (try replace ce := ce.of_eq (hcn.block _ ce.lt (by omega))); (try replace p9 := p9.of_eq (hcn.block _ p9.lt (by omega))); (try replace t13 := t13.of_eq (hcn.block _ t13.lt (by omega))); (try replace rs1 := rs1.of_eq (hcn.block _ rs1.lt (by omega))); (try replace rsm := rsm.of_eq (hcn.block _ rsm.lt (by omega))); (try replace rc5 := rc5.of_eq (hcn.block _ rc5.lt (by omega))); have t15 := ht; clear ht; simp only [Act.put, putS])
        refine wpList_nil ?_
        refine Only.at ?_
        try dsimp only
        replace t15 : AtB 79 _ b_t15 (taC ⟨X, Y, pstT c L X Y (tileL M X Y)⟩) := t15
        gi_upto_region 18 with fail
        refine round_lit (by kernel_rfl) ?_
        try simp only [List.getElem_toArray, List.getElem_cons_zero, List.getElem_cons_succ]
        refine wpList_chunk 2 (by kernel_rfl) ?_
        simp only [takS, Nat.reduceAdd]
        repeat (first | go_big_quiet_skip | (go_big_quiet_want; first | (refine quiet_buildTA0 rfl X Y rfl ?_; simp only [Act.put, putS]; go_big_quiet_on) | (refine quiet_loadT rfl _ rfl (ov_tile t13) ?_; simp only [Act.put, putS]; go_big_quiet_on) | (refine quiet_loadAny (t := 40) rfl _ _ _ rfl (fun w hw => ta_tile (ov_B t15 w hw)) (by first | rfl | omega) ?_; simp only [Act.put, putS]; go_big_quiet_on) | (go_big_quiet_op; go_big_quiet_on)))
        refine wpQuiet_nil ?_
        (refine wpList_storeT rfl _ _ rfl _ rfl _ rfl t13 ?_; clear t13; intro wn ht hcn hzn; have hsz := B.size; replace hzn := Nat.le_of_eq hzn.symm; replace B := Exc.store B hcn (by omega); (try replace l8 := l8.of_eq (hcn.block _ l8.lt (by omega))); (try replace m3 := m3.of_eq (hcn.block _ m3.lt (by omega))); (try replace c6 := c6.of_eq (hcn.block _ c6.lt (by omega))); (try replace r4 := r4.of_eq (hcn.block _ r4.lt (by omega))); (try replace ce := ce.of_eq (hcn.block _ ce.lt (by omega))); (try replace p9 := p9.of_eq (hcn.block _ p9.lt (by omega))); (try replace t15 := t15.of_eq (hcn.block _ t15.lt (by omega))); (try replace rs1 := rs1.of_eq (hcn.block _ rs1.lt (by omega))); (try replace rsm := rsm.of_eq (hcn.block _ rsm.lt (by omega))); (try replace rc5 := rc5.of_eq (hcn.block _ rc5.lt (by omega))); have t13 := ht; clear ht; simp only [Act.put, putS])
        refine wpList_nil ?_
        refine Only.at ?_
        try dsimp only
        gi_upto_region 19 with fail
        refine round_lit (by kernel_rfl) ?_
        try simp only [List.getElem_toArray, List.getElem_cons_zero, List.getElem_cons_succ]
        refine wpList_chunk 2 (by kernel_rfl) ?_
        simp only [takS, Nat.reduceAdd]
        repeat (first | go_big_quiet_skip | (go_big_quiet_want; first | (refine quiet_buildTA0 rfl X Y rfl ?_; simp only [Act.put, putS]; go_big_quiet_on) | (go_big_quiet_op; go_big_quiet_on)))
        refine wpQuiet_nil ?_
        refine wpList_nil ?_
        refine Only.at ?_
        try dsimp only
        gi_wp2
        rw [roundsIn_succ]
        gi_upto_region 16 with fail
        refine round_lit (by kernel_rfl) ?_
        try simp only [List.getElem_toArray, List.getElem_cons_zero, List.getElem_cons_succ]
        refine wpList_chunk 1 (by kernel_rfl) ?_
        simp only [takS, Nat.reduceAdd]
        repeat (first | go_big_quiet_skip | (go_big_quiet_want; first | (refine quiet_buildTA0 rfl X Y rfl ?_; simp only [Act.put, putS]; go_big_quiet_on) | (go_big_quiet_op; go_big_quiet_on)))
        refine wpQuiet_nil ?_
        refine wpList_nil ?_
        refine Only.at ?_
        try dsimp only
        clear rs1
        have rs1 := RS1W.out.chg L8.out (by simp) B.toChg
        gi_upto_region 20 with fail
        refine round_lit (by kernel_rfl) ?_
        try simp only [List.getElem_toArray, List.getElem_cons_zero, List.getElem_cons_succ]
        refine wpList_chunk 3 (by kernel_rfl) ?_
        simp only [takS, Nat.reduceAdd]
        repeat (first | go_big_quiet_skip | (go_big_quiet_want; first | (refine quiet_loadAny (t := 28) rfl _ _ _ rfl (fun w hw => run_load_sl ((ov_B l8 w hw).cellL 0 rfl)) (by rfl) ?_; simp only [Act.put, putS]; go_big_quiet_on) | (refine quiet_loadAny (t := 24) rfl _ _ _ rfl (fun w hw => run_load_B (ov_B p9 w hw) Try.isAgg24 (by kernel_rfl)) (by rfl) ?_; simp only [Act.put, putS]; go_big_quiet_on) | (refine quiet_buildTA0 rfl X Y rfl ?_; simp only [Act.put, putS]; go_big_quiet_on) | (refine quiet_loadT rfl _ rfl (ov_tile t13) ?_; simp only [Act.put, putS]; go_big_quiet_on) | (refine quiet_loadAny (t := 40) rfl _ _ _ rfl (fun w hw => ta_tile (ov_B t15 w hw)) (by first | rfl | omega) ?_; simp only [Act.put, putS]; go_big_quiet_on) | (go_big_quiet_op; go_big_quiet_on)))
        refine wpQuiet_nil ?_
        refine wpList_callF (by first | rfl | simp [Region.wanted, yielded]) rfl (enters_of Try.func73 (by kernel_rfl) rfl) (by simp only [List.map_toArray, List.map_cons, List.map_nil, Act.eval, Array.getD_eq_getD_getElem?, List.getElem?_toArray, List.getElem?_cons_succ, List.getElem?_cons_zero, Option.getD_some]; rfl) ?_
        refine (P_with _ M X Y (pstT c L X Y (tileL M X Y)) _ rs1 SM.out HTT.out (by omega)).mono ?_
        rintro e wn ⟨v8, rfl, rs8, hbn⟩
        have hsz := B.size
        have hzn := hbn.size
        replace B := B.trans (hbn.mono B.size)
        (try first | replace l8 := l8.of_eq (hbn.block _ l8.lt) | replace l8 := l8.below hbn)
        (try first | replace m3 := m3.of_eq (hbn.block _ m3.lt) | replace m3 := m3.below hbn)
        (try first | replace c6 := c6.of_eq (hbn.block _ c6.lt) | replace c6 := c6.below hbn)
        (try first | replace r4 := r4.of_eq (hbn.block _ r4.lt) | replace r4 := r4.below hbn)
        (try first | replace ce := ce.of_eq (hbn.block _ ce.lt) | replace ce := ce.below hbn)
        (try first | replace p9 := p9.of_eq (hbn.block _ p9.lt) | replace p9 := p9.below hbn)
        (try first | replace t13 := t13.of_eq (hbn.block _ t13.lt) | replace t13 := t13.below hbn)
        (try first | replace t15 := t15.of_eq (hbn.block _ t15.lt) | replace t15 := t15.below hbn)
        (try first | replace rs1 := rs1.of_eq (hbn.block _ rs1.lt) | replace rs1 := rs1.below hbn)
        (try first | replace rsm := rsm.of_eq (hbn.block _ rsm.lt) | replace rsm := rsm.below hbn)
        (try first | replace rc5 := rc5.of_eq (hbn.block _ rc5.lt) | replace rc5 := rc5.below hbn)
        obtain ⟨a8, c8, rfl, hc8⟩ := rs8.len
        refine ⟨_, rfl, ?_⟩
        simp only [Act.put, putS]
        (refine wpList_storeSl rfl _ _ rfl _ rfl _ _ _ rfl l8 ?_; have l8o := l8; clear l8; intro wn ht hcn hzn; (try replace rs8 := rs8.chg l8o (by simp) hcn); have hsz := B.size; replace hzn := Nat.le_of_eq hzn.symm; replace B := Exc.chg B hcn; (try replace m3 := m3.of_eq (hcn.block _ m3.lt (by omega))); (try replace c6 := c6.of_eq (hcn.block _ c6.lt (by omega))); (try replace r4 := r4.of_eq (hcn.block _ r4.lt (by omega))); (try replace ce := ce.of_eq (hcn.block _ ce.lt (by omega))); (try replace p9 := p9.of_eq (hcn.block _ p9.lt (by omega))); (try replace t13 := t13.of_eq (hcn.block _ t13.lt (by omega))); (try replace t15 := t15.of_eq (hcn.block _ t15.lt (by omega))); (try replace rc5 := rc5.of_eq (hcn.block _ rc5.lt (by omega))); have l8 := ht; clear ht; simp only [Act.put, putS])
        refine wpList_nil ?_
        refine Only.at ?_
        try dsimp only
        gi_wp2
        refine ⟨KeepsOthers.chgB B.toChg L8.out, KpB.chg B.toChg, ?_⟩
        dsimp only
        rw [HNEW.out]
        exact ⟨a8, c8, l8, rs8, m3, c6, r4, ce, Chg.below BW B.toChg (by omega) BW.size⟩
    | false =>
      have HH := Lib.hid hh
      have hz0 := Lib.hid (hit_not SM.out hh)
      obtain ⟨k, hk⟩ : ∃ k, cutL M X Y = k := ⟨_, rfl⟩
      have HK := Lib.hid hk
      have hkl := cutL_le M X Y
      rw [hk] at hkl
      clear hh hk
      gi_upto_region 10 with fail
      refine round_lit (by kernel_rfl) ?_
      try simp only [List.getElem_toArray, List.getElem_cons_zero, List.getElem_cons_succ]
      refine wpList_chunk 2 (by kernel_rfl) ?_
      simp only [takS, Nat.reduceAdd]
      repeat (first | go_big_quiet_skip | (go_big_quiet_want; first | (refine quiet_loadAny (t := 28) rfl _ _ _ rfl (fun w hw => run_load_sl ((ov_B l8 w hw).cellL 0 rfl)) (by rfl) ?_; simp only [Act.put, putS]; go_big_quiet_on) | (refine quiet_loadAny (t := 24) rfl _ _ _ rfl (fun w hw => run_load_B (ov_B p9 w hw) Try.isAgg24 (by kernel_rfl)) (by rfl) ?_; simp only [Act.put, putS]; go_big_quiet_on) | (refine quiet_buildTA0 rfl X Y rfl ?_; simp only [Act.put, putS]; go_big_quiet_on) | (go_big_quiet_op; go_big_quiet_on)))
      refine wpQuiet_nil ?_
      refine wpList_callF (by first | rfl | simp [Region.wanted, yielded]) rfl (enters_of Try.func93 (by kernel_rfl) rfl) (by simp only [List.map_toArray, List.map_cons, List.map_nil, Act.eval, Array.getD_eq_getD_getElem?, List.getElem?_toArray, List.getElem?_cons_succ, List.getElem?_cons_zero, Option.getD_some]; rfl) ?_
      refine (P_findB _ M X Y k false _ rs1 SM.out (by omega) HK.out HH.out).mono ?_
      rintro e wn ⟨rfl, hbn⟩
      have hsz := B.size
      have hzn := hbn.size
      replace B := B.trans (hbn.mono B.size)
      (try first | replace l8 := l8.of_eq (hbn.block _ l8.lt) | replace l8 := l8.below hbn)
      (try first | replace m3 := m3.of_eq (hbn.block _ m3.lt) | replace m3 := m3.below hbn)
      (try first | replace c6 := c6.of_eq (hbn.block _ c6.lt) | replace c6 := c6.below hbn)
      (try first | replace r4 := r4.of_eq (hbn.block _ r4.lt) | replace r4 := r4.below hbn)
      (try first | replace ce := ce.of_eq (hbn.block _ ce.lt) | replace ce := ce.below hbn)
      (try first | replace p9 := p9.of_eq (hbn.block _ p9.lt) | replace p9 := p9.below hbn)
      (try first | replace t13 := t13.of_eq (hbn.block _ t13.lt) | replace t13 := t13.below hbn)
      (try first | replace t15 := t15.of_eq (hbn.block _ t15.lt) | replace t15 := t15.below hbn)
      (try first | replace rs1 := rs1.of_eq (hbn.block _ rs1.lt) | replace rs1 := rs1.below hbn)
      (try first | replace rsm := rsm.of_eq (hbn.block _ rsm.lt) | replace rsm := rsm.below hbn)
      (try first | replace rc5 := rc5.of_eq (hbn.block _ rc5.lt) | replace rc5 := rc5.below hbn)
      refine ⟨_, rfl, ?_⟩
      simp only [Act.put, putS]
      refine wpList_chunk 5 (by kernel_rfl) ?_
      simp only [takS, Nat.reduceAdd]
      repeat (first | go_big_quiet_skip | (go_big_quiet_want; first | (refine quiet_buildTA0 rfl X Y rfl ?_; simp only [Act.put, putS]; go_big_quiet_on) | (go_big_quiet_op; go_big_quiet_on)))
      refine wpQuiet_nil ?_
      refine wpList_nil ?_
      refine Only.at ?_
      try dsimp only
      gi_upto_region 11 with fail
      refine round_lit (by kernel_rfl) ?_
      try simp only [List.getElem_toArray, List.getElem_cons_zero, List.getElem_cons_succ]
      refine wpList_chunk 2 (by kernel_rfl) ?_
      simp only [takS, Nat.reduceAdd]
      repeat (first | go_big_quiet_skip | (go_big_quiet_want; first | (refine quiet_loadAny (t := 24) rfl _ _ _ rfl (fun w hw => run_load_B (ov_B p9 w hw) Try.isAgg24 (by kernel_rfl)) (by rfl) ?_; simp only [Act.put, putS]; go_big_quiet_on) | (refine quiet_buildTA0 rfl X Y rfl ?_; simp only [Act.put, putS]; go_big_quiet_on) | (go_big_quiet_op; go_big_quiet_on)))
      refine wpQuiet_nil ?_
      (refine wpList_bs1T rfl _ rfl ⟨X, Y, zT⟩ (by rfl) ?_; intro b_s1 wn hle hge ht hbn hzn; have hsz := B.size; replace B := B.trans (hbn.mono (by omega)); have hln := Nat.lt_of_lt_of_eq (Nat.lt_succ_self _) hzn.symm; clear hzn; (try first | (have hlt := l8.lt; replace l8 := l8.of_eq (hbn.block _ (by omega))) | replace l8 := l8.below (hbn.mono hle)); (try first | (have hlt := m3.lt; replace m3 := m3.of_eq (hbn.block _ (by omega))) | replace m3 := m3.below (hbn.mono hle)); (try first | (have hlt := c6.lt; replace c6 := c6.of_eq (hbn.block _ (by omega))) | replace c6 := c6.below (hbn.mono hle)); (try first | (have hlt := r4.lt; replace r4 := r4.of_eq (hbn.block _ (by omega))) | replace r4 := r4.below (hbn.mono hle)); (try first | (have hlt := ce.lt; replace ce := ce.of_eq (hbn.block _ (by omega))) | replace ce := ce.below (hbn.mono hle)); (try first | (have hlt := p9.lt; replace p9 := p9.of_eq (hbn.block _ (by omega))) | replace p9 := p9.below (hbn.mono hle)); (try first | (have hlt := t13.lt; replace t13 := t13.of_eq (hbn.block _ (by omega))) | replace t13 := t13.below (hbn.mono hle)); (try first | (have hlt := t15.lt; replace t15 := t15.of_eq (hbn.block _ (by omega))) | replace t15 := t15.below (hbn.mono hle)); (try first | (have hlt := rs1.lt; replace rs1 := rs1.of_eq (hbn.block _ (by omega))) | replace rs1 := rs1.below (hbn.mono hle)); (try first | (have hlt := rsm.lt; replace rsm := rsm.of_eq (hbn.block _ (by omega))) | replace rsm := rsm.below (hbn.mono hle)); (try first | (have hlt := rc5.lt; replace rc5 := rc5.of_eq (hbn.block _ (by omega))) | replace rc5 := rc5.below (hbn.mono hle)); have s1 := ht; clear ht; simp only [Act.put, putS])
      refine wpList_chunk 1 (by kernel_rfl) ?_
      simp only [takS, Nat.reduceAdd]
      repeat (first | go_big_quiet_skip | (go_big_quiet_want; first | (refine quiet_buildTA0 rfl X Y rfl ?_; simp only [Act.put, putS]; go_big_quiet_on) | (go_big_quiet_op; go_big_quiet_on)))
      refine wpQuiet_nil ?_
      refine wpList_nil ?_
      refine Only.at ?_
      try dsimp only
      gi_upto_region 12 with fail
      refine round_lit (by kernel_rfl) ?_
      try simp only [List.getElem_toArray, List.getElem_cons_zero, List.getElem_cons_succ]
      refine wpList_chunk 1 (by kernel_rfl) ?_
      simp only [takS, Nat.reduceAdd]
      repeat (first | go_big_quiet_skip | (go_big_quiet_want; first | (refine quiet_buildTA0 rfl X Y rfl ?_; simp only [Act.put, putS]; go_big_quiet_on) | (go_big_quiet_op; go_big_quiet_on)))
      refine wpQuiet_nil ?_
      refine wpList_nil ?_
      refine Only.at ?_
      try dsimp only
      have rsm := RS.one s1
      have rsm0 := rsm
      gi_upto_region 14 with fail
      refine round_lit (by kernel_rfl) ?_
      try simp only [List.getElem_toArray, List.getElem_cons_zero, List.getElem_cons_succ]
      (refine wpList_allocT' rfl rfl ?_; intro b_t13 wn hle hge ht hbn hzn; have hsz := B.size; replace B := B.trans (hbn.mono (by omega)); have hln := Nat.lt_of_lt_of_eq (Nat.lt_succ_self _) hzn.symm; clear hzn; (try first | (have hlt := l8.lt; replace l8 := l8.of_eq (hbn.block _ (by omega))) | replace l8 := l8.below (hbn.mono hle)); (try first | (have hlt := m3.lt; replace m3 := m3.of_eq (hbn.block _ (by omega))) | replace m3 := m3.below (hbn.mono hle)); (try first | (have hlt := c6.lt; replace c6 := c6.of_eq (hbn.block _ (by omega))) | replace c6 := c6.below (hbn.mono hle)); (try first | (have hlt := r4.lt; replace r4 := r4.of_eq (hbn.block _ (by omega))) | replace r4 := r4.below (hbn.mono hle)); (try first | (have hlt := ce.lt; replace ce := ce.of_eq (hbn.block _ (by omega))) | replace ce := ce.below (hbn.mono hle)); (try first | (have hlt := p9.lt; replace p9 := p9.of_eq (hbn.block _ (by omega))) | replace p9 := p9.below (hbn.mono hle)); (try first | (have hlt := t13.lt; replace t13 := t13.of_eq (hbn.block _ (by omega))) | replace t13 := t13.below (hbn.mono hle)); (try first | (have hlt := t15.lt; replace t15 := t15.of_eq (hbn.block _ (by omega))) | replace t15 := t15.below (hbn.mono hle)); (try first | (have hlt := rs1.lt; replace rs1 := rs1.of_eq (hbn.block _ (by omega))) | replace rs1 := rs1.below (hbn.mono hle)); (try first | (have hlt := rsm.lt; replace rsm := rsm.of_eq (hbn.block _ (by omega))) | replace rsm := rsm.below (hbn.mono hle)); (try first | (have hlt := rc5.lt; replace rc5 := rc5.of_eq (hbn.block _ (by omega))) | replace rc5 := rc5.below (hbn.mono hle)); have t13 := ht; clear ht; simp only [Act.put, putS])
      refine wpList_nil ?_
      refine Only.at ?_
      try dsimp only
      have HSEP := Lib.hid (rs_sep rsm0 hle (by simp))
      clear rsm0
      gi_upto_region 15 with fail
      refine round_lit (by kernel_rfl) ?_
      try simp only [List.getElem_toArray, List.getElem_cons_zero, List.getElem_cons_succ]
      refine wpList_chunk 1 (by kernel_rfl) ?_
      simp only [takS, Nat.reduceAdd]
      repeat (first | go_big_quiet_skip | (go_big_quiet_want; first | (refine quiet_buildTA0 rfl X Y rfl ?_; simp only [Act.put, putS]; go_big_quiet_on) | (go_big_quiet_op; go_big_quiet_on)))
      refine wpQuiet_nil ?_
      (refine wpList_val rfl (.func (.func 94) #[] #[.pointer (some ⟨b_c6, 0, none⟩), .pointer (some ⟨b_m3, 0, none⟩)]) (by first | rfl | simp [go_sem, Act.eval]) ?_; simp only [Act.put, putS])
      refine wpList_callF (by first | rfl | simp [Region.wanted, yielded]) rfl (enters_of Try.func79 (by kernel_rfl) rfl) (by simp only [List.map_toArray, List.map_cons, List.map_nil, Act.eval, Array.getD_eq_getD_getElem?, List.getElem?_toArray, List.getElem?_cons_succ, List.getElem?_cons_zero, Option.getD_some]; rfl) ?_
      refine (P_mapPst c FT.out L HL.out OK.out ⟨X, Y, zT⟩ _ _ b_c6 b_m3 b_t13 g o cu _ _ rsm (fun i _ => Px.zero_ok) HWI.out c6 m3 ce t13 HSEP.out).mono ?_
      rintro e wn ⟨a5, cp5, rfl, rs5, hbn⟩
      have hsz := B.size
      have hzn := hbn.size
      replace B := B.trans (hbn.mono B.size)
      (try first | replace l8 := l8.of_eq (hbn.block _ l8.lt) | replace l8 := l8.below hbn)
      (try first | replace m3 := m3.of_eq (hbn.block _ m3.lt) | replace m3 := m3.below hbn)
      (try first | replace c6 := c6.of_eq (hbn.block _ c6.lt) | replace c6 := c6.below hbn)
      (try first | replace r4 := r4.of_eq (hbn.block _ r4.lt) | replace r4 := r4.below hbn)
      (try first | replace ce := ce.of_eq (hbn.block _ ce.lt) | replace ce := ce.below hbn)
      (try first | replace p9 := p9.of_eq (hbn.block _ p9.lt) | replace p9 := p9.below hbn)
      (try first | replace t13 := t13.of_eq (hbn.block _ t13.lt) | replace t13 := t13.below hbn)
      (try first | replace t15 := t15.of_eq (hbn.block _ t15.lt) | replace t15 := t15.below hbn)
      (try first | replace rs1 := rs1.of_eq (hbn.block _ rs1.lt) | replace rs1 := rs1.below hbn)
      (try first | replace rsm := rsm.of_eq (hbn.block _ rsm.lt) | replace rsm := rsm.below hbn)
      (try first | replace rc5 := rc5.of_eq (hbn.block _ rc5.lt) | replace rc5 := rc5.below hbn)
      refine ⟨_, rfl, ?_⟩
      simp only [Act.put, putS]
      refine wpList_lenS (by first | rfl | simp [Region.wanted, yielded]) rfl Try.underlying28 rfl ?_
      simp only [Act.put, putS]
      refine wpList_chunk 1 (by kernel_rfl) ?_
      simp only [takS, Nat.reduceAdd]
      repeat (first | go_big_quiet_skip | (go_big_quiet_want; first | (refine quiet_buildTA0 rfl X Y rfl ?_; simp only [Act.put, putS]; go_big_quiet_on) | (go_big_quiet_op; go_big_quiet_on)))
      refine wpQuiet_nil ?_
      refine wpList_nil ?_
      refine Only.at ?_
      try dsimp only
      rw [← hz0.out] at rs5
      simp only [← hz0.out]
      clear rsm HSEP
      cases hz : zeroB (pstT c L X Y (tileL M X Y)) with
      | true =>
        have HN : newA X Y (pstT c L X Y (tileL M X Y)) = [] := by unfold newA; rw [hz]; rfl
        rw [HN] at rs5
        simp only [HN, List.length_nil]
        clear rs5 HN
        have HZ := Lib.hid hz
        clear hz
        gi_wp2
        refine wpIn_loop_rounds 2 ?_
        rw [roundsIn_succ]
        gi_upto_region 16 with fail
        refine round_lit (by kernel_rfl) ?_
        try simp only [List.getElem_toArray, List.getElem_cons_zero, List.getElem_cons_succ]
        refine wpList_chunk 1 (by kernel_rfl) ?_
        simp only [takS, Nat.reduceAdd]
        repeat (first | go_big_quiet_skip | (go_big_quiet_want; first | (refine quiet_buildTA0 rfl X Y rfl ?_; simp only [Act.put, putS]; go_big_quiet_on) | (go_big_quiet_op; go_big_quiet_on)))
        refine wpQuiet_nil ?_
        refine wpList_nil ?_
        refine Only.at ?_
        try dsimp only
        clear rs1
        have rs1 := RS1W.out.chg L8.out (by simp) B.toChg
        gi_upto_region 20 with fail
        refine round_lit (by kernel_rfl) ?_
        try simp only [List.getElem_toArray, List.getElem_cons_zero, List.getElem_cons_succ]
        refine wpList_chunk 3 (by kernel_rfl) ?_
        simp only [takS, Nat.reduceAdd]
        repeat (first | go_big_quiet_skip | (go_big_quiet_want; first | (refine quiet_loadAny (t := 28) rfl _ _ _ rfl (fun w hw => run_load_sl ((ov_B l8 w hw).cellL 0 rfl)) (by rfl) ?_; simp only [Act.put, putS]; go_big_quiet_on) | (refine quiet_loadAny (t := 24) rfl _ _ _ rfl (fun w hw => run_load_B (ov_B p9 w hw) Try.isAgg24 (by kernel_rfl)) (by rfl) ?_; simp only [Act.put, putS]; go_big_quiet_on) | (refine quiet_buildTA0 rfl X Y rfl ?_; simp only [Act.put, putS]; go_big_quiet_on) | (refine quiet_loadT rfl _ rfl (ov_tile t13) ?_; simp only [Act.put, putS]; go_big_quiet_on) | (refine quiet_loadAny (t := 40) rfl _ _ _ rfl (fun w hw => ta_tile (ov_B t15 w hw)) (by first | rfl | omega) ?_; simp only [Act.put, putS]; go_big_quiet_on) | (go_big_quiet_op; go_big_quiet_on)))
        refine wpQuiet_nil ?_
        refine wpList_callF (by first | rfl | simp [Region.wanted, yielded]) rfl (enters_of Try.func73 (by kernel_rfl) rfl) (by simp only [List.map_toArray, List.map_cons, List.map_nil, Act.eval, Array.getD_eq_getD_getElem?, List.getElem?_toArray, List.getElem?_cons_succ, List.getElem?_cons_zero, Option.getD_some]; rfl) ?_
        refine (P_with _ M X Y (fun _ => Px.zero) _ rs1 SM.out (fun i _ => Px.zero_ok) (by omega)).mono ?_
        rintro e wn ⟨v8, rfl, rs8, hbn⟩
        have hsz := B.size
        have hzn := hbn.size
        replace B := B.trans (hbn.mono B.size)
        (try first | replace l8 := l8.of_eq (hbn.block _ l8.lt) | replace l8 := l8.below hbn)
        (try first | replace m3 := m3.of_eq (hbn.block _ m3.lt) | replace m3 := m3.below hbn)
        (try first | replace c6 := c6.of_eq (hbn.block _ c6.lt) | replace c6 := c6.below hbn)
        (try first | replace r4 := r4.of_eq (hbn.block _ r4.lt) | replace r4 := r4.below hbn)
        (try first | replace ce := ce.of_eq (hbn.block _ ce.lt) | replace ce := ce.below hbn)
        (try first | replace p9 := p9.of_eq (hbn.block _ p9.lt) | replace p9 := p9.below hbn)
        (try first | replace t13 := t13.of_eq (hbn.block _ t13.lt) | replace t13 := t13.below hbn)
        (try first | replace t15 := t15.of_eq (hbn.block _ t15.lt) | replace t15 := t15.below hbn)
        (try first | replace rs1 := rs1.of_eq (hbn.block _ rs1.lt) | replace rs1 := rs1.below hbn)
        (try first | replace rsm := rsm.of_eq (hbn.block _ rsm.lt) | replace rsm := rsm.below hbn)
        (try first | replace rc5 := rc5.of_eq (hbn.block _ rc5.lt) | replace rc5 := rc5.below hbn)
        obtain ⟨a8, c8, rfl, hc8⟩ := rs8.len
        refine ⟨_, rfl, ?_⟩
        simp only [Act.put, putS]
        (refine wpList_storeSl rfl _ _ rfl _ rfl _ _ _ rfl l8 ?_; have l8o := l8; clear l8; intro wn ht hcn hzn; (try replace rs8 := rs8.chg l8o (by simp) hcn); have hsz := B.size; replace hzn := Nat.le_of_eq hzn.symm; replace B := Exc.chg B hcn; (try replace m3 := m3.of_eq (hcn.block _ m3.lt (by omega))); (try replace c6 := c6.of_eq (hcn.block _ c6.lt (by omega))); (try replace r4 := r4.of_eq (hcn.block _ r4.lt (by omega))); (try replace ce := ce.of_eq (hcn.block _ ce.lt (by omega))); (try replace p9 := p9.of_eq (hcn.block _ p9.lt (by omega))); (try replace t13 := t13.of_eq (hcn.block _ t13.lt (by omega))); (try replace t15 := t15.of_eq (hcn.block _ t15.lt (by omega))); (try replace rc5 := rc5.of_eq (hcn.block _ rc5.lt (by omega))); have l8 := ht; clear ht; simp only [Act.put, putS])
        refine wpList_nil ?_
        refine Only.at ?_
        try dsimp only
        gi_wp2
        refine ⟨KeepsOthers.chgB B.toChg L8.out, KpB.chg B.toChg, ?_⟩
        dsimp only
        rw [HNEW.out]
        have e := putL_zero M X Y (t := fun _ => Px.zero) (u := pstT c L X Y (tileL M X Y)) ((zeroB_iff _).2 fun _ _ => rfl) HZ.out
        rw [e] at rs8 l8
        exact ⟨a8, c8, l8, rs8, m3, c6, r4, ce, Chg.below BW B.toChg (by omega) BW.size⟩
      | false =>
        have HN : newA X Y (pstT c L X Y (tileL M X Y)) = [⟨X, Y, pstT c L X Y (tileL M X Y)⟩] := by unfold newA; rw [hz]; rfl
        rw [HN] at rs5
        simp only [HN, List.length_cons, List.length_nil, Nat.zero_add]
        obtain ⟨g5, o5, rfl, rc5⟩ := rs5.at (by simp)
        clear rs5 HN hz
        have hlen1 : 0 < [(⟨X, Y, pstT c L X Y (tileL M X Y)⟩ : TA)].length := by simp
        gi_wp2
        refine wpIn_loop_rounds 2 ?_
        rw [roundsIn_succ]
        gi_upto_region 16 with fail
        refine round_lit (by kernel_rfl) ?_
        try simp only [List.getElem_toArray, List.getElem_cons_zero, List.getElem_cons_succ]
        refine wpList_chunk 1 (by kernel_rfl) ?_
        simp only [takS, Nat.reduceAdd]
        repeat (first | go_big_quiet_skip | (go_big_quiet_want; first | (refine quiet_buildTA0 rfl X Y rfl ?_; simp only [Act.put, putS]; go_big_quiet_on) | (go_big_quiet_op; go_big_quiet_on)))
        refine wpQuiet_nil ?_
        refine wpList_nil ?_
        refine Only.at ?_
        try dsimp only
        gi_upto_region 17 with fail
        refine round_lit (by kernel_rfl) ?_
        try simp only [List.getElem_toArray, List.getElem_cons_zero, List.getElem_cons_succ]
        refine wpList_chunk 2 (by kernel_rfl) ?_
        simp only [takS, Nat.reduceAdd]
        repeat (first | go_big_quiet_skip | (go_big_quiet_want; first | (refine quiet_buildTA0 rfl X Y rfl ?_; simp only [Act.put, putS]; go_big_quiet_on) | (refine quiet_loadAny (t := 79) rfl _ _ _ rfl (fun w hw => rc_ta (ov_rc rc5 w hw) hlen1 rfl) (by first | rfl | omega) ?_; simp only [Act.put, putS]; go_big_quiet_on) | (go_big_quiet_op; go_big_quiet_on)))
        refine wpQuiet_nil ?_
        (refine wpList_allocBk (t := 79) rfl _ (run_alloc_TA _ _ rfl) ?_; intro b_t15 wn hle hge ht hbn hzn; have hsz := B.size; replace B := B.trans (hbn.mono (by omega)); have hln := Nat.lt_of_lt_of_eq (Nat.lt_succ_self _) hzn.symm; clear hzn; (try first | (have hlt := l8.lt; replace l8 := l8.of_eq (hbn.block _ (by omega))) | replace l8 := l8.below (hbn.mono hle)); (try first | (have hlt := m3.lt; replace m3 := m3.of_eq (hbn.block _ (by omega))) | replace m3 := m3.below (hbn.mono hle)); (try first | (have hlt := c6.lt; replace c6 := c6.of_eq (hbn.block _ (by omega))) | replace c6 := c6.below (hbn.mono hle)); (try first | (have hlt := r4.lt; replace r4 := r4.of_eq (hbn.block _ (by omega))) | replace r4 := r4.below (hbn.mono hle)); (try first | (have hlt := ce.lt; replace ce := ce.of_eq (hbn.block _ (by omega))) | replace ce := ce.below (hbn.mono hle)); (try first | (have hlt := p9.lt; replace p9 := p9.of_eq (hbn.block _ (by omega))) | replace p9 := p9.below (hbn.mono hle)); (try first | (have hlt := t13.lt; replace t13 := t13.of_eq (hbn.block _ (by omega))) | replace t13 := t13.below (hbn.mono hle)); (try first | (have hlt := t15.lt; replace t15 := t15.of_eq (hbn.block _ (by omega))) | replace t15 := t15.below (hbn.mono hle)); (try first | (have hlt := rs1.lt; replace rs1 := rs1.of_eq (hbn.block _ (by omega))) | replace rs1 := rs1.below (hbn.mono hle)); (try first | (have hlt := rsm.lt; replace rsm := rsm.of_eq (hbn.block _ (by omega))) | replace rsm := rsm.below (hbn.mono hle)); (try first | (have hlt := rc5.lt; replace rc5 := rc5.of_eq (hbn.block _ (by omega))) | replace rc5 := rc5.below (hbn.mono hle)); have t15 := ht; clear ht; simp only [Act.put, putS])
        (refine wpList_storeB (t := 79) rfl _ _ rfl _ rfl _ rfl t15 (by rw [size_taC]; kernel_rfl) (by simp only [size_taC, size_zTA]) (taC_all _) ?_; clear t15; intro wn ht hcn hzn; have hsz := B.size; replace hzn := Nat.le_of_eq hzn.symm; replace B := Exc.store B hcn (by omega); (try replace l8 := l8.of_eq (hcn.block _ l8.lt (by omega))); (try replace m3 := m3.of_eq (hcn.block _ m3.lt (by omega))); (try replace c6 := c6.of_eq (hcn.block _ c6.lt (by omega))); (try replace r4 := r4.of_eq (hcn.block _ r4.lt (by omega))); (try replace ce := ce.of_eq (hcn.block _ ce.lt (by omega))); (try replace p9 := p9.of_eq (hcn.block _ p9.lt (by omega))); (try replace t13 := t13.of_eq (hcn.block _ t13.lt (by omega))); (try replace rs1 := rs1.of_eq (hcn.block _ rs1.lt (by omega))); (try replace rsm := rsm.of_eq (hcn.block _ rsm.lt (by omega))); (try replace rc5 := rc5.of_eq (hcn.block _ rc5.lt (by omega))); have t15 := ht; clear ht; simp only [Act.put, putS])
        refine wpList_nil ?_
        refine Only.at ?_
        try dsimp only
        replace t15 : AtB 79 _ b_t15 (taC ⟨X, Y, pstT c L X Y (tileL M X Y)⟩) := t15
        gi_upto_region 18 with fail
        refine round_lit (by kernel_rfl) ?_
        try simp only [List.getElem_toArray, List.getElem_cons_zero, List.getElem_cons_succ]
        refine wpList_chunk 2 (by kernel_rfl) ?_
        simp only [takS, Nat.reduceAdd]
        repeat (first | go_big_quiet_skip | (go_big_quiet_want; first | (refine quiet_buildTA0 rfl X Y rfl ?_; simp only [Act.put, putS]; go_big_quiet_on) | (refine quiet_loadT rfl _ rfl (ov_tile t13) ?_; simp only [Act.put, putS]; go_big_quiet_on) | (refine quiet_loadAny (t := 40) rfl _ _ _ rfl (fun w hw => ta_tile (ov_B t15 w hw)) (by first | rfl | omega) ?_; simp only [Act.put, putS]; go_big_quiet_on) | (go_big_quiet_op; go_big_quiet_on)))
        refine wpQuiet_nil ?_
        (refine wpList_storeT rfl _ _ rfl _ rfl _ rfl t13 ?_; clear t13; intro wn ht hcn hzn; have hsz := B.size; replace hzn := Nat.le_of_eq hzn.symm; replace B := Exc.store B hcn (by omega); (try replace l8 := l8.of_eq (hcn.block _ l8.lt (by omega))); (try replace m3 := m3.of_eq (hcn.block _ m3.lt (by omega))); (try replace c6 := c6.of_eq (hcn.block _ c6.lt (by omega))); (try replace r4 := r4.of_eq (hcn.block _ r4.lt (by omega))); (try replace ce := ce.of_eq (hcn.block _ ce.lt (by omega))); (try replace p9 := p9.of_eq (hcn.block _ p9.lt (by omega))); (try replace t15 := t15.of_eq (hcn.block _ t15.lt (by omega))); (try replace rs1 := rs1.of_eq (hcn.block _ rs1.lt (by omega))); (try replace rsm := rsm.of_eq (hcn.block _ rsm.lt (by omega))); (try replace rc5 := rc5.of_eq (hcn.block _ rc5.lt (by omega))); have t13 := ht; clear ht; simp only [Act.put, putS])
        refine wpList_nil ?_
        refine Only.at ?_
        try dsimp only
        gi_upto_region 19 with fail
        refine round_lit (by kernel_rfl) ?_
        try simp only [List.getElem_toArray, List.getElem_cons_zero, List.getElem_cons_succ]
        refine wpList_chunk 2 (by kernel_rfl) ?_
        simp only [takS, Nat.reduceAdd]
        repeat (first | go_big_quiet_skip | (go_big_quiet_want; first | (refine quiet_buildTA0 rfl X Y rfl ?_; simp only [Act.put, putS]; go_big_quiet_on) | (go_big_quiet_op; go_big_quiet_on)))
        refine wpQuiet_nil ?_
        refine wpList_nil ?_
        refine Only.at ?_
        try dsimp only
        gi_wp2
        rw [roundsIn_succ]
        gi_upto_region 16 with fail
        refine round_lit (by kernel_rfl) ?_
        try simp only [List.getElem_toArray, List.getElem_cons_zero, List.getElem_cons_succ]
        refine wpList_chunk 1 (by kernel_rfl) ?_
        simp only [takS, Nat.reduceAdd]
        repeat (first | go_big_quiet_skip | (go_big_quiet_want; first | (refine quiet_buildTA0 rfl X Y rfl ?_; simp only [Act.put, putS]; go_big_quiet_on) | (go_big_quiet_op; go_big_quiet_on)))
        refine wpQuiet_nil ?_
        refine wpList_nil ?_
        refine Only.at ?_
        try dsimp only
        clear rs1
        have rs1 := RS1W.out.chg L8.out (by simp) B.toChg
        gi_upto_region 20 with fail
        refine round_lit (by kernel_rfl) ?_
        try simp only [List.getElem_toArray, List.getElem_cons_zero, List.getElem_cons_succ]
        refine wpList_chunk 3 (by kernel_rfl) ?_
        simp only [takS, Nat.reduceAdd]
        repeat (first | go_big_quiet_skip | (go_big_quiet_want; first | (refine quiet_loadAny (t := 28) rfl _ _ _ rfl (fun w hw => run_load_sl ((ov_B l8 w hw).cellL 0 rfl)) (by rfl) ?_; simp only [Act.put, putS]; go_big_quiet_on) | (refine quiet_loadAny (t := 24) rfl _ _ _ rfl (fun w hw => run_load_B (ov_B p9 w hw) Try.isAgg24 (by kernel_rfl)) (by rfl) ?_; simp only [Act.put, putS]; go_big_quiet_on) | (refine quiet_buildTA0 rfl X Y rfl ?_; simp only [Act.put, putS]; go_big_quiet_on) | (refine quiet_loadT rfl _ rfl (ov_tile t13) ?_; simp only [Act.put, putS]; go_big_quiet_on) | (refine quiet_loadAny (t := 40) rfl _ _ _ rfl (fun w hw => ta_tile (ov_B t15 w hw)) (by first | rfl | omega) ?_; simp only [Act.put, putS]; go_big_quiet_on) | (go_big_quiet_op; go_big_quiet_on)))
        refine wpQuiet_nil ?_
        refine wpList_callF (by first | rfl | simp [Region.wanted, yielded]) rfl (enters_of Try.func73 (by kernel_rfl) rfl) (by simp only [List.map_toArray, List.map_cons, List.map_nil, Act.eval, Array.getD_eq_getD_getElem?, List.getElem?_toArray, List.getElem?_cons_succ, List.getElem?_cons_zero, Option.getD_some]; rfl) ?_
        refine (P_with _ M X Y (pstT c L X Y (tileL M X Y)) _ rs1 SM.out HTT.out (by omega)).mono ?_
        rintro e wn ⟨v8, rfl, rs8, hbn⟩
        have hsz := B.size
        have hzn := hbn.size
        replace B := B.trans (hbn.mono B.size)
        (try first | replace l8 := l8.of_eq (hbn.block _ l8.lt) | replace l8 := l8.below hbn)
        (try first | replace m3 := m3.of_eq (hbn.block _ m3.lt) | replace m3 := m3.below hbn)
        (try first | replace c6 := c6.of_eq (hbn.block _ c6.lt) | replace c6 := c6.below hbn)
        (try first | replace r4 := r4.of_eq (hbn.block _ r4.lt) | replace r4 := r4.below hbn)
        (try first | replace ce := ce.of_eq (hbn.block _ ce.lt) | replace ce := ce.below hbn)
        (try first | replace p9 := p9.of_eq (hbn.block _ p9.lt) | replace p9 := p9.below hbn)
        (try first | replace t13 := t13.of_eq (hbn.block _ t13.lt) | replace t13 := t13.below hbn)
        (try first | replace t15 := t15.of_eq (hbn.block _ t15.lt) | replace t15 := t15.below hbn)
        (try first | replace rs1 := rs1.of_eq (hbn.block _ rs1.lt) | replace rs1 := rs1.below hbn)
        (try first | replace rsm := rsm.of_eq (hbn.block _ rsm.lt) | replace rsm := rsm.below hbn)
        (try first | replace rc5 := rc5.of_eq (hbn.block _ rc5.lt) | replace rc5 := rc5.below hbn)
        obtain ⟨a8, c8, rfl, hc8⟩ := rs8.len
        refine ⟨_, rfl, ?_⟩
        simp only [Act.put, putS]
        (refine wpList_storeSl rfl _ _ rfl _ rfl _ _ _ rfl l8 ?_; have l8o := l8; clear l8; intro wn ht hcn hzn; (try replace rs8 := rs8.chg l8o (by simp) hcn); have hsz := B.size; replace hzn := Nat.le_of_eq hzn.symm; replace B := Exc.chg B hcn; (try replace m3 := m3.of_eq (hcn.block _ m3.lt (by omega))); (try replace c6 := c6.of_eq (hcn.block _ c6.lt (by omega))); (try replace r4 := r4.of_eq (hcn.block _ r4.lt (by omega))); (try replace ce := ce.of_eq (hcn.block _ ce.lt (by omega))); (try replace p9 := p9.of_eq (hcn.block _ p9.lt (by omega))); (try replace t13 := t13.of_eq (hcn.block _ t13.lt (by omega))); (try replace t15 := t15.of_eq (hcn.block _ t15.lt (by omega))); (try replace rc5 := rc5.of_eq (hcn.block _ rc5.lt (by omega))); have l8 := ht; clear ht; simp only [Act.put, putS])
        refine wpList_nil ?_
        refine Only.at ?_
        try dsimp only
        gi_wp2
        refine ⟨KeepsOthers.chgB B.toChg L8.out, KpB.chg B.toChg, ?_⟩
        dsimp only
        rw [HNEW.out]
        exact ⟨a8, c8, l8, rs8, m3, c6, r4, ce, Chg.below BW B.toChg (by omega) BW.size⟩
  case done =>
    have hszB := B.size
    rintro D xs W hD rfl ⟨a, cp, l8, rs1, m3, c6, r4, ce, BW⟩ hDD
    have kd : DefAt W D := hDD
    rw [posF_all] at l8 rs1
    have B := BW
    have hMn := pstL_len c L (posL c) KS
    rw [posL_len] at hMn
    obtain ⟨M, hM⟩ : ∃ M, pstL c L KS (posL c) = M := ⟨_, rfl⟩
    rw [hM] at l8 rs1 hMn
    have HM := Lib.hid hM
    clear hM
    have hwD : w.heap.size ≤ D := by omega
    have hne := kd.ne r4
    clear BW m3 c6 ce hD
    go_upto_region 21 with fail
    by_cases hm : M.length ≤ 1024
    · have e1 : manyL M = M := if_pos hm
      have e2 : manyE M = 0 := if_pos hm
      refine wp_region_lit ?_
      try simp only [List.getElem_toArray, List.getElem_cons_zero, List.getElem_cons_succ]
      refine wpList_chunk 1 (by kernel_rfl) ?_
      simp only [takS, Nat.reduceAdd]
      repeat (first | go_big_quiet_skip | (go_big_quiet_want; first | (refine quiet_loadAny (t := 28) rfl _ _ _ rfl (fun w hw => run_load_sl ((ov_B l8 w hw).cellL 0 rfl)) (by rfl) ?_; simp only [Act.put, putS]; go_big_quiet_on) | (go_big_quiet_op; go_big_quiet_on)))
      refine wpQuiet_nil ?_
      refine wpList_callF (by first | rfl | simp [Region.wanted, yielded]) rfl (enters_of Try.func96 (by kernel_rfl) rfl) (by simp only [List.map_toArray, List.map_cons, List.map_nil, Act.eval, Array.getD_eq_getD_getElem?, List.getElem?_toArray, List.getElem?_cons_succ, List.getElem?_cons_zero, Option.getD_some]; rfl) ?_
      refine (P_CloneO _ M _ rs1 (by omega)).mono ?_
      rintro e wn ⟨v2, b2, rfl, _, _, od2, hbn⟩
      have hsz := B.size
      have hzn := hbn.size
      replace B := B.trans (hbn.mono B.size)
      (try first | replace l8 := l8.of_eq (hbn.block _ l8.lt) | replace l8 := l8.below hbn)
      (try first | replace r4 := r4.of_eq (hbn.block _ r4.lt) | replace r4 := r4.below hbn)
      (try first | replace kd := kd.of_eq (hbn.block _ kd.lt) | replace kd := kd.below hbn)
      have rs2 := od2.rs
      clear od2
      obtain ⟨a2, c2, rfl, hc2⟩ := rs2.len
      refine ⟨_, rfl, ?_⟩
      simp only [Act.put, putS]
      refine wpList_callF (by first | rfl | simp [Region.wanted, yielded]) rfl (enters_of Try.func72 (by kernel_rfl) rfl) (by simp only [List.map_toArray, List.map_cons, List.map_nil, Act.eval, Array.getD_eq_getD_getElem?, List.getElem?_toArray, List.getElem?_cons_succ, List.getElem?_cons_zero, Option.getD_some]; rfl) ?_
      refine (P_made _ _ _ _ (by unfold maxLen; omega)).mono ?_
      rintro e wn ⟨rfl, hbn⟩
      have hsz := B.size
      have hzn := hbn.size
      replace B := B.trans (hbn.mono B.size)
      (try first | replace l8 := l8.of_eq (hbn.block _ l8.lt) | replace l8 := l8.below hbn)
      (try first | replace r4 := r4.of_eq (hbn.block _ r4.lt) | replace r4 := r4.below hbn)
      (try first | replace kd := kd.of_eq (hbn.block _ kd.lt) | replace kd := kd.below hbn)
      replace rs2 := rs2.below hbn
      rw [if_pos hm]
      refine ⟨_, rfl, ?_⟩
      simp only [Act.put, putS]
      refine wpList_chunk 2 (by kernel_rfl) ?_
      simp only [takS, Nat.reduceAdd]
      repeat (first | go_big_quiet_skip | (go_big_quiet_want; first | (go_big_quiet_op; go_big_quiet_on)))
      refine wpQuiet_nil ?_
      (refine wpList_storeB (t := 30) rfl _ _ rfl _ rfl _ rfl r4 (by kernel_rfl) rfl (by simp [Value.oneCell']) ?_; have r4o := r4; clear r4; intro wn ht hcn hzn; (try replace rs2 := rs2.chg r4o (by simp) hcn); have hsz := B.size; replace hzn := Nat.le_of_eq hzn.symm; replace B := Chg.below B hcn (by omega) B.size; (try replace l8 := l8.of_eq (hcn.block _ l8.lt (by omega))); (try replace kd := kd.of_eq (hcn.block _ kd.lt (by omega))); have r4 := ht; clear ht; simp only [Act.put, putS])
      refine wpList_chunk 1 (by kernel_rfl) ?_
      simp only [takS, Nat.reduceAdd]
      repeat (first | go_big_quiet_skip | (go_big_quiet_want; first | (go_big_quiet_op; go_big_quiet_on)))
      refine wpQuiet_nil ?_
      refine wpList_nil ?_
      go_wp2
      refine ⟨by simp, .inl ⟨_, _, rfl, run_takeDeferred kd, ?_⟩⟩
      refine ⟨_, results_B2 (t := 30) rfl _ _ b_r4 rfl _ rfl ((World.putObj_heap_other (fun e => hne (by omega))).trans r4) Try.isAgg30 (by kernel_rfl), ?_⟩
      have BF := B.trans (belowK_b (w := w) (Nat.le_refl _) wn D _ (.deferred none) hwD kd rfl rfl)
      dsimp only
      rw [HM.out, e1, e2]
      exact ⟨_, _, rfl, rs2.own (grownBy_putObj' _ _ _) (fun r e => by cases e; exact ⟨_, kd, rfl⟩), BF⟩
    · have e1 : manyL M = [] := if_neg hm
      have e2 : manyE M = 2 := if_neg hm
      refine wp_region_lit ?_
      try simp only [List.getElem_toArray, List.getElem_cons_zero, List.getElem_cons_succ]
      refine wpList_chunk 1 (by kernel_rfl) ?_
      simp only [takS, Nat.reduceAdd]
      repeat (first | go_big_quiet_skip | (go_big_quiet_want; first | (refine quiet_loadAny (t := 28) rfl _ _ _ rfl (fun w hw => run_load_sl ((ov_B l8 w hw).cellL 0 rfl)) (by rfl) ?_; simp only [Act.put, putS]; go_big_quiet_on) | (go_big_quiet_op; go_big_quiet_on)))
      refine wpQuiet_nil ?_
      refine wpList_callF (by first | rfl | simp [Region.wanted, yielded]) rfl (enters_of Try.func96 (by kernel_rfl) rfl) (by simp only [List.map_toArray, List.map_cons, List.map_nil, Act.eval, Array.getD_eq_getD_getElem?, List.getElem?_toArray, List.getElem?_cons_succ, List.getElem?_cons_zero, Option.getD_some]; rfl) ?_
      refine (P_CloneO _ M _ rs1 (by omega)).mono ?_
      rintro e wn ⟨v2, b2, rfl, _, _, od2, hbn⟩
      have hsz := B.size
      have hzn := hbn.size
      replace B := B.trans (hbn.mono B.size)
      (try first | replace l8 := l8.of_eq (hbn.block _ l8.lt) | replace l8 := l8.below hbn)
      (try first | replace r4 := r4.of_eq (hbn.block _ r4.lt) | replace r4 := r4.below hbn)
      (try first | replace kd := kd.of_eq (hbn.block _ kd.lt) | replace kd := kd.below hbn)
      have rs2 := od2.rs
      clear od2
      obtain ⟨a2, c2, rfl, hc2⟩ := rs2.len
      refine ⟨_, rfl, ?_⟩
      simp only [Act.put, putS]
      refine wpList_callF (by first | rfl | simp [Region.wanted, yielded]) rfl (enters_of Try.func72 (by kernel_rfl) rfl) (by simp only [List.map_toArray, List.map_cons, List.map_nil, Act.eval, Array.getD_eq_getD_getElem?, List.getElem?_toArray, List.getElem?_cons_succ, List.getElem?_cons_zero, Option.getD_some]; rfl) ?_
      refine (P_made _ _ _ _ (by unfold maxLen; omega)).mono ?_
      rintro e wn ⟨rfl, hbn⟩
      have hsz := B.size
      have hzn := hbn.size
      replace B := B.trans (hbn.mono B.size)
      (try first | replace l8 := l8.of_eq (hbn.block _ l8.lt) | replace l8 := l8.below hbn)
      (try first | replace r4 := r4.of_eq (hbn.block _ r4.lt) | replace r4 := r4.below hbn)
      (try first | replace kd := kd.of_eq (hbn.block _ kd.lt) | replace kd := kd.below hbn)
      replace rs2 := rs2.below hbn
      rw [if_neg hm]
      refine ⟨_, rfl, ?_⟩
      simp only [Act.put, putS]
      refine wpList_chunk 2 (by kernel_rfl) ?_
      simp only [takS, Nat.reduceAdd]
      repeat (first | go_big_quiet_skip | (go_big_quiet_want; first | (go_big_quiet_op; go_big_quiet_on)))
      refine wpQuiet_nil ?_
      (refine wpList_storeB (t := 30) rfl _ _ rfl _ rfl _ rfl r4 (by kernel_rfl) rfl (by simp [Value.oneCell']) ?_; have r4o := r4; clear r4; intro wn ht hcn hzn; (try replace rs2 := rs2.chg r4o (by simp) hcn); have hsz := B.size; replace hzn := Nat.le_of_eq hzn.symm; replace B := Chg.below B hcn (by omega) B.size; (try replace l8 := l8.of_eq (hcn.block _ l8.lt (by omega))); (try replace kd := kd.of_eq (hcn.block _ kd.lt (by omega))); have r4 := ht; clear ht; simp only [Act.put, putS])
      refine wpList_chunk 1 (by kernel_rfl) ?_
      simp only [takS, Nat.reduceAdd]
      repeat (first | go_big_quiet_skip | (go_big_quiet_want; first | (go_big_quiet_op; go_big_quiet_on)))
      refine wpQuiet_nil ?_
      refine wpList_nil ?_
      go_wp2
      refine ⟨by simp, .inl ⟨_, _, rfl, run_takeDeferred kd, ?_⟩⟩
      refine ⟨_, results_B2 (t := 30) rfl _ _ b_r4 rfl _ rfl ((World.putObj_heap_other (fun e => hne (by omega))).trans r4) Try.isAgg30 (by kernel_rfl), ?_⟩
      have BF := B.trans (belowK_b (w := w) (Nat.le_refl _) wn D _ (.deferred none) hwD kd rfl rfl)
      dsimp only
      rw [HM.out, e1, e2]
      exact ⟨_, _, rfl, RS.nil _, BF⟩
end Go.Proofs.Ytppccnjckiedlaa
/- Contract of Paste of the reference. -/
namespace Go.Proofs.Ytppccnjckiedlaa
open Go.RowKit Go.Shelf Pl
set_option linter.unusedVariables false
set_option linter.unusedSimpArgs false
set_option maxRecDepth 20000
theorem R_ValidRB2 (r : Rc) (b : Bool) (w : World) (e : validR r = b) : Calls Try.prog 35 #[.agg (rcA r)] w fun e w' => e = .returned (.bool b) ∧ Below w.heap.size w w' := e ▸ R_ValidR r w
theorem R_AreaB2 (r : Rc) (n : Int) (w : World) (h : validR r = true) (e : areaR r = n) : Calls Try.prog 36 #[.agg (rcA r)] w fun e w' => e = .returned (.int .i64 n) ∧ Below w.heap.size w w' := e ▸ R_Area r w h
theorem R_HasO (r : Rc) (x y : Int) (b : Bool) (w : World) (e : hasR r x y = b) : Calls Try.prog 88 #[.agg (rcA r), .int .i64 x, .int .i64 y] w fun e w' => e = .returned (.bool b) ∧ Below w.heap.size w w' := e ▸ R_Has r x y w
theorem R_TileO (v : Value) (ls : List TA) (x y : Int) (w : World) (h : RS v ls w) (hn : ls.length ≤ maxLen) : Calls Try.prog 23 #[.agg #[v], .agg #[.int .i64 x, .int .i64 y]] w fun e w' => e = .returned (Tile.v (tileL ls x y)) ∧ Below w.heap.size w w' := R_Tile v ls x y w h hn
set_option maxHeartbeats 4000000 in
theorem R_Paste_inv (v : Value) (ls : List TA) (c : Rc) (ad : Option Addr) (n cp : Nat) (w : World) (h : RS v ls w) (hn : n ≤ maxLen) (hV0 : validR c = false) : Calls Try.prog 49 #[.agg #[v], .agg (imgC c (.slice ad n cp))] w fun e w' => e = .returned (.agg #[.slice none 0 0, .int .i64 1]) ∧ Below w.heap.size w w' := by
  have B := Below.refl w.heap.size w
  obtain ⟨a, cpv, rfl, hc⟩ := h.len
  clear h
  go_enter Try.func49, Try.ntmps49
  go_upto_region 0 with fail
  refine wp_region_lit ?_
  try simp only [List.getElem_toArray, List.getElem_cons_zero, List.getElem_cons_succ]
  (refine wpList_boxB (t := 30) rfl _ rfl _ rfl ?_; intro b_r2 wn hle hge ht hbn hzn; have hsz := B.size; replace B := B.trans (hbn.mono (by omega)); have hln := Nat.lt_of_lt_of_eq (Nat.lt_succ_self _) hzn.symm; clear hzn; have r2 := ht; clear ht; simp only [Act.put, putS])
  (refine wpList_boxB (t := 68) rfl _ rfl _ rfl ?_; intro b_m3 wn hle hge ht hbn hzn; have hsz := B.size; replace B := B.trans (hbn.mono (by omega)); have hln := Nat.lt_of_lt_of_eq (Nat.lt_succ_self _) hzn.symm; clear hzn; (try first | (have hlt := r2.lt; replace r2 := r2.of_eq (hbn.block _ (by omega))) | replace r2 := r2.below (hbn.mono hle)); have m3 := ht; clear ht; simp only [Act.put, putS])
  (refine wpList_allocBk (t := 50) rfl _ (run_alloc_G _ _ rfl) ?_; intro b_g4 wn hle hge ht hbn hzn; have hsz := B.size; replace B := B.trans (hbn.mono (by omega)); have hln := Nat.lt_of_lt_of_eq (Nat.lt_succ_self _) hzn.symm; clear hzn; (try first | (have hlt := r2.lt; replace r2 := r2.of_eq (hbn.block _ (by omega))) | replace r2 := r2.below (hbn.mono hle)); (try first | (have hlt := m3.lt; replace m3 := m3.of_eq (hbn.block _ (by omega))) | replace m3 := m3.below (hbn.mono hle)); have g4 := ht; clear ht; simp only [Act.put, putS])
  refine wpList_nil ?_
  go_upto_region 1 with fail
  refine wp_region_lit ?_
  try simp only [List.getElem_toArray, List.getElem_cons_zero, List.getElem_cons_succ]
  refine wpList_chunk 2 (by kernel_rfl) ?_
  simp only [takS, Nat.reduceAdd]
  repeat (first | go_big_quiet_skip | (go_big_quiet_want; first | (refine quiet_loadAny (t := 64) rfl _ _ _ rfl (fun w hw => run_load_imR (ov_B m3 w hw)) (by first | rfl | omega) ?_; simp only [Act.put, putS]; go_big_quiet_on) | (refine quiet_loadAny (t := 64) rfl _ _ _ rfl (fun w hw => run_load_B (ov_B c7 w hw) Try.isAgg64 (by kernel_rfl)) (by rfl) ?_; simp only [Act.put, putS]; go_big_quiet_on) | (go_big_quiet_op; go_big_quiet_on)))
  refine wpQuiet_nil ?_
  refine wpList_callF (by first | rfl | simp [Region.wanted, yielded]) rfl (enters_of Try.func35 (by kernel_rfl) rfl) (by simp only [List.map_toArray, List.map_cons, List.map_nil, Act.eval, Array.getD_eq_getD_getElem?, List.getElem?_toArray, List.getElem?_cons_succ, List.getElem?_cons_zero, Option.getD_some]; rfl) ?_
  refine (R_ValidRB2 c false _ hV0).mono ?_
  rintro e wn ⟨rfl, hbn⟩
  have hsz := B.size
  have hzn := hbn.size
  replace B := B.trans (hbn.mono B.size)
  (try first | replace r2 := r2.of_eq (hbn.block _ r2.lt) | replace r2 := r2.below hbn)
  (try first | replace m3 := m3.of_eq (hbn.block _ m3.lt) | replace m3 := m3.below hbn)
  (try first | replace g4 := g4.of_eq (hbn.block _ g4.lt) | replace g4 := g4.below hbn)
  (try first | replace c7 := c7.of_eq (hbn.block _ c7.lt) | replace c7 := c7.below hbn)
  refine ⟨_, rfl, ?_⟩
  simp only [Act.put, putS]
  refine wpList_chunk 1 (by kernel_rfl) ?_
  simp only [takS, Nat.reduceAdd]
  repeat (first | go_big_quiet_skip | (go_big_quiet_want; first | (go_big_quiet_op; go_big_quiet_on)))
  refine wpQuiet_nil ?_
  refine wpList_nil ?_
  go_upto_region 2 with fail
  try simp only [List.getElem_toArray, List.getElem_cons_zero, List.getElem_cons_succ]
  try have lx_r2 := r2.lt
  try have lx_m3 := m3.lt
  try have lx_g4 := g4.lt
  try have lx_c7 := c7.lt
  refine wp_region_RL 11 [] (by kernel_rfl) (by kernel_rfl) (by kernel_rfl) ?_
  rotate_left 0
  simp only [takS, Nat.reduceAdd]
  refine wpRL_chunk 5 (by kernel_rfl) ?_
  simp only [takS, Nat.reduceAdd]
  repeat (first | go_big_quiet_skip | (go_big_quiet_want; first | (refine quiet_loadAny (t := 66) rfl _ _ _ rfl (fun w hw => run_load_slp (imgC_u (ov_B m3 w hw))) (by first | rfl | omega) ?_; simp only [Act.put, putS]; go_big_quiet_on) | (go_big_quiet_op; go_big_quiet_on)))
  refine wpQuiet_nil ?_
  refine wpRL_skip (by first | rfl | simp [Region.wanted, yielded]) ?_
  simp only [Act.put, putS]
  refine wpRL_chunk 2 (by kernel_rfl) ?_
  simp only [takS, Nat.reduceAdd]
  repeat (first | go_big_quiet_skip | (go_big_quiet_want; first | (refine quiet_loadAny (t := 64) rfl _ _ _ rfl (fun w hw => run_load_imR (ov_B m3 w hw)) (by first | rfl | omega) ?_; simp only [Act.put, putS]; go_big_quiet_on) | (refine quiet_loadAny (t := 64) rfl _ _ _ rfl (fun w hw => run_load_B (ov_B c7 w hw) Try.isAgg64 (by kernel_rfl)) (by rfl) ?_; simp only [Act.put, putS]; go_big_quiet_on) | (go_big_quiet_op; go_big_quiet_on)))
  refine wpQuiet_nil ?_
  refine wpRL_skip (by first | rfl | simp [Region.wanted, yielded]) ?_
  simp only [Act.put, putS]
  refine wpRL_chunk 2 (by kernel_rfl) ?_
  simp only [takS, Nat.reduceAdd]
  repeat (first | go_big_quiet_skip | (go_big_quiet_want; first | (go_big_quiet_op; go_big_quiet_on)))
  refine wpQuiet_nil ?_
  refine wpRL_nil ?_
  intro wn hbn hE
  have hsz := B.size
  have hzn := hbn.size
  replace B := B.trans (hbn.mono B.size)
  (try first | replace r2 := r2.of_eq (hbn.block _ r2.lt) | replace r2 := r2.below hbn)
  (try first | replace m3 := m3.of_eq (hbn.block _ m3.lt) | replace m3 := m3.below hbn)
  (try first | replace g4 := g4.of_eq (hbn.block _ g4.lt) | replace g4 := g4.below hbn)
  (try first | replace c7 := c7.of_eq (hbn.block _ c7.lt) | replace c7 := c7.below hbn)
  clear hE
  try simp only [List.drop_succ_cons, List.drop_zero]
  refine NoPan.normal ?_
  go_upto_region 3 with fail
  refine wp_region_lit ?_
  try simp only [List.getElem_toArray, List.getElem_cons_zero, List.getElem_cons_succ]
  refine wpList_chunk 1 (by kernel_rfl) ?_
  simp only [takS, Nat.reduceAdd]
  repeat (first | go_big_quiet_skip | (go_big_quiet_want; first | (go_big_quiet_op; go_big_quiet_on)))
  refine wpQuiet_nil ?_
  (refine wpList_storeB (t := 50) rfl _ _ rfl _ rfl _ rfl g4 (by kernel_rfl) rfl (by simp [rcA, imgC, Value.oneCell']) ?_; clear g4; intro wn ht hcn hzn; have hsz := B.size; replace hzn := Nat.le_of_eq hzn.symm; replace B := Chg.below B hcn (by omega) B.size; (try replace r2 := r2.of_eq (hcn.block _ r2.lt (by omega))); (try replace m3 := m3.of_eq (hcn.block _ m3.lt (by omega))); (try replace c7 := c7.of_eq (hcn.block _ c7.lt (by omega))); have g4 := ht; clear ht; simp only [Act.put, putS])
  refine wpList_nil ?_
  go_wp2
  refine bodyPost_ret (results_B (t := 50) rfl _ _ (b_g4) rfl g4 Try.isAgg50 (by kernel_rfl)) rfl ?_
  exact ⟨rfl, B⟩
set_option maxHeartbeats 4000000 in
theorem R_Paste_len (v : Value) (ls : List TA) (c : Rc) (ad : Option Addr) (n cp : Nat) (w : World) (h : RS v ls w) (hn : n ≤ maxLen) (hV0 : validR c = true) (A : Int) (hA : areaR c = A) (hlen : ¬ (n : Int) = A) : Calls Try.prog 49 #[.agg #[v], .agg (imgC c (.slice ad n cp))] w fun e w' => e = .returned (.agg #[.slice none 0 0, .int .i64 1]) ∧ Below w.heap.size w w' := by
  have B := Below.refl w.heap.size w
  obtain ⟨a, cpv, rfl, hc⟩ := h.len
  have d1 : ((n : Int) != A) = true := by simpa using hlen
  have HA := Lib.hid hA
  clear h hA
  go_enter Try.func49, Try.ntmps49
  go_upto_region 0 with fail
  refine wp_region_lit ?_
  try simp only [List.getElem_toArray, List.getElem_cons_zero, List.getElem_cons_succ]
  (refine wpList_boxB (t := 30) rfl _ rfl _ rfl ?_; intro b_r2 wn hle hge ht hbn hzn; have hsz := B.size; replace B := B.trans (hbn.mono (by omega)); have hln := Nat.lt_of_lt_of_eq (Nat.lt_succ_self _) hzn.symm; clear hzn; have r2 := ht; clear ht; simp only [Act.put, putS])
  (refine wpList_boxB (t := 68) rfl _ rfl _ rfl ?_; intro b_m3 wn hle hge ht hbn hzn; have hsz := B.size; replace B := B.trans (hbn.mono (by omega)); have hln := Nat.lt_of_lt_of_eq (Nat.lt_succ_self _) hzn.symm; clear hzn; (try first | (have hlt := r2.lt; replace r2 := r2.of_eq (hbn.block _ (by omega))) | replace r2 := r2.below (hbn.mono hle)); have m3 := ht; clear ht; simp only [Act.put, putS])
  (refine wpList_allocBk (t := 50) rfl _ (run_alloc_G _ _ rfl) ?_; intro b_g4 wn hle hge ht hbn hzn; have hsz := B.size; replace B := B.trans (hbn.mono (by omega)); have hln := Nat.lt_of_lt_of_eq (Nat.lt_succ_self _) hzn.symm; clear hzn; (try first | (have hlt := r2.lt; replace r2 := r2.of_eq (hbn.block _ (by omega))) | replace r2 := r2.below (hbn.mono hle)); (try first | (have hlt := m3.lt; replace m3 := m3.of_eq (hbn.block _ (by omega))) | replace m3 := m3.below (hbn.mono hle)); have g4 := ht; clear ht; simp only [Act.put, putS])
  refine wpList_nil ?_
  go_upto_region 1 with fail
  refine wp_region_lit ?_
  try simp only [List.getElem_toArray, List.getElem_cons_zero, List.getElem_cons_succ]
  refine wpList_chunk 2 (by kernel_rfl) ?_
  simp only [takS, Nat.reduceAdd]
  repeat (first | go_big_quiet_skip | (go_big_quiet_want; first | (refine quiet_loadAny (t := 64) rfl _ _ _ rfl (fun w hw => run_load_imR (ov_B m3 w hw)) (by first | rfl | omega) ?_; simp only [Act.put, putS]; go_big_quiet_on) | (refine quiet_loadAny (t := 64) rfl _ _ _ rfl (fun w hw => run_load_B (ov_B c7 w hw) Try.isAgg64 (by kernel_rfl)) (by rfl) ?_; simp only [Act.put, putS]; go_big_quiet_on) | (go_big_quiet_op; go_big_quiet_on)))
  refine wpQuiet_nil ?_
  refine wpList_callF (by first | rfl | simp [Region.wanted, yielded]) rfl (enters_of Try.func35 (by kernel_rfl) rfl) (by simp only [List.map_toArray, List.map_cons, List.map_nil, Act.eval, Array.getD_eq_getD_getElem?, List.getElem?_toArray, List.getElem?_cons_succ, List.getElem?_cons_zero, Option.getD_some]; rfl) ?_
  refine (R_ValidRB2 c true _ hV0).mono ?_
  rintro e wn ⟨rfl, hbn⟩
  have hsz := B.size
  have hzn := hbn.size
  replace B := B.trans (hbn.mono B.size)
  (try first | replace r2 := r2.of_eq (hbn.block _ r2.lt) | replace r2 := r2.below hbn)
  (try first | replace m3 := m3.of_eq (hbn.block _ m3.lt) | replace m3 := m3.below hbn)
  (try first | replace g4 := g4.of_eq (hbn.block _ g4.lt) | replace g4 := g4.below hbn)
  (try first | replace c7 := c7.of_eq (hbn.block _ c7.lt) | replace c7 := c7.below hbn)
  refine ⟨_, rfl, ?_⟩
  simp only [Act.put, putS]
  refine wpList_chunk 1 (by kernel_rfl) ?_
  simp only [takS, Nat.reduceAdd]
  repeat (first | go_big_quiet_skip | (go_big_quiet_want; first | (go_big_quiet_op; go_big_quiet_on)))
  refine wpQuiet_nil ?_
  refine wpList_nil ?_
  go_upto_region 2 with fail
  try simp only [List.getElem_toArray, List.getElem_cons_zero, List.getElem_cons_succ]
  try have lx_r2 := r2.lt
  try have lx_m3 := m3.lt
  try have lx_g4 := g4.lt
  try have lx_c7 := c7.lt
  refine wp_region_RL 11 [(5, detS ?v2_5), (8, detS ?v2_8)] (by kernel_rfl) (by kernel_rfl) (by kernel_rfl) ?_
  rotate_left 2
  simp only [takS, Nat.reduceAdd]
  refine wpRL_chunk 5 (by kernel_rfl) ?_
  simp only [takS, Nat.reduceAdd]
  repeat (first | go_big_quiet_skip | (go_big_quiet_want; first | (refine quiet_loadAny (t := 66) rfl _ _ _ rfl (fun w hw => run_load_slp (imgC_u (ov_B m3 w hw))) (by first | rfl | omega) ?_; simp only [Act.put, putS]; go_big_quiet_on) | (go_big_quiet_op; go_big_quiet_on)))
  refine wpQuiet_nil ?_
  refine wpRL_callB (by rfl) (by first | rfl | simp [Region.wanted, yielded]) ?_ ?_
  · intro wn hbn hE Kx hKx
    have hsz := B.size
    have hzn := hbn.size
    replace B := B.trans (hbn.mono B.size)
    (try first | replace r2 := r2.of_eq (hbn.block _ r2.lt) | replace r2 := r2.below hbn)
    (try first | replace m3 := m3.of_eq (hbn.block _ m3.lt) | replace m3 := m3.below hbn)
    (try first | replace g4 := g4.of_eq (hbn.block _ g4.lt) | replace g4 := g4.below hbn)
    (try first | replace c7 := c7.of_eq (hbn.block _ c7.lt) | replace c7 := c7.below hbn)
    refine wp_lenS rfl Try.underlying66 rfl ?_
    exact hKx () _ trivial (Below.refl _ _)
  rintro ⟨⟩
  dsimp only [detS]
  simp only [Act.put, putS]
  refine wpRL_chunk 2 (by kernel_rfl) ?_
  simp only [takS, Nat.reduceAdd]
  repeat (first | go_big_quiet_skip | (go_big_quiet_want; first | (refine quiet_loadAny (t := 64) rfl _ _ _ rfl (fun w hw => run_load_imR (ov_B m3 w hw)) (by first | rfl | omega) ?_; simp only [Act.put, putS]; go_big_quiet_on) | (refine quiet_loadAny (t := 64) rfl _ _ _ rfl (fun w hw => run_load_B (ov_B c7 w hw) Try.isAgg64 (by kernel_rfl)) (by rfl) ?_; simp only [Act.put, putS]; go_big_quiet_on) | (go_big_quiet_op; go_big_quiet_on)))
  refine wpQuiet_nil ?_
  refine wpRL_callB (by rfl) (by first | rfl | simp [Region.wanted, yielded]) ?_ ?_
  · intro wn hbn hE Kx hKx
    have hsz := B.size
    have hzn := hbn.size
    replace B := B.trans (hbn.mono B.size)
    (try first | replace r2 := r2.of_eq (hbn.block _ r2.lt) | replace r2 := r2.below hbn)
    (try first | replace m3 := m3.of_eq (hbn.block _ m3.lt) | replace m3 := m3.below hbn)
    (try first | replace g4 := g4.of_eq (hbn.block _ g4.lt) | replace g4 := g4.below hbn)
    (try first | replace c7 := c7.of_eq (hbn.block _ c7.lt) | replace c7 := c7.below hbn)
    refine wp_callF rfl (enters_of Try.func36 (by kernel_rfl) rfl) (by simp only [List.map_toArray, List.map_cons, List.map_nil, Act.eval, Array.getD_eq_getD_getElem?, List.getElem?_toArray, List.getElem?_cons_succ, List.getElem?_cons_zero, Option.getD_some]; rfl) ?_
    refine (R_AreaB2 c A _ hV0 HA.out).mono ?_
    rintro e wm ⟨rfl, hbm⟩
    refine ⟨_, rfl, ?_⟩
    have hz := hKx () wm trivial hbm
    dsimp only [detS] at hz
    exact hz
  rintro ⟨⟩
  dsimp only [detS]
  simp only [Act.put, putS]
  refine wpRL_chunk 2 (by kernel_rfl) ?_
  simp only [takS, Nat.reduceAdd]
  repeat (first | go_big_quiet_skip | (go_big_quiet_want; first | (go_big_quiet_op; go_big_quiet_on)))
  refine wpQuiet_nil ?_
  refine wpRL_nil ?_
  intro wn hbn hE
  have hsz := B.size
  have hzn := hbn.size
  replace B := B.trans (hbn.mono B.size)
  (try first | replace r2 := r2.of_eq (hbn.block _ r2.lt) | replace r2 := r2.below hbn)
  (try first | replace m3 := m3.of_eq (hbn.block _ m3.lt) | replace m3 := m3.below hbn)
  (try first | replace g4 := g4.of_eq (hbn.block _ g4.lt) | replace g4 := g4.below hbn)
  (try first | replace c7 := c7.of_eq (hbn.block _ c7.lt) | replace c7 := c7.below hbn)
  clear hE
  try simp only [List.drop_succ_cons, List.drop_zero]
  refine NoPan.normal ?_
  go_upto_region 3 with fail
  refine wp_region_lit ?_
  try simp only [List.getElem_toArray, List.getElem_cons_zero, List.getElem_cons_succ]
  refine wpList_chunk 1 (by kernel_rfl) ?_
  simp only [takS, Nat.reduceAdd]
  repeat (first | go_big_quiet_skip | (go_big_quiet_want; first | (go_big_quiet_op; go_big_quiet_on)))
  refine wpQuiet_nil ?_
  (refine wpList_storeB (t := 50) rfl _ _ rfl _ rfl _ rfl g4 (by kernel_rfl) rfl (by simp [rcA, imgC, Value.oneCell']) ?_; clear g4; intro wn ht hcn hzn; have hsz := B.size; replace hzn := Nat.le_of_eq hzn.symm; replace B := Chg.below B hcn (by omega) B.size; (try replace r2 := r2.of_eq (hcn.block _ r2.lt (by omega))); (try replace m3 := m3.of_eq (hcn.block _ m3.lt (by omega))); (try replace c7 := c7.of_eq (hcn.block _ c7.lt (by omega))); have g4 := ht; clear ht; simp only [Act.put, putS])
  refine wpList_nil ?_
  go_wp2
  refine bodyPost_ret (results_B (t := 50) rfl _ _ (b_g4) rfl g4 Try.isAgg50 (by kernel_rfl)) rfl ?_
  exact ⟨rfl, B⟩
set_option maxHeartbeats 4000000 in
theorem R_Paste_big (v : Value) (ls : List TA) (c : Rc) (ad : Option Addr) (n cp : Nat) (w : World) (h : RS v ls w) (hn : n ≤ maxLen) (hV0 : validR c = true) (hA : areaR c = (n : Int)) (e0 : Int) (hF : fitsE c = e0) (h0 : ¬ e0 = 0) : Calls Try.prog 49 #[.agg #[v], .agg (imgC c (.slice ad n cp))] w fun e w' => e = .returned (.agg #[.slice none 0 0, .int .i64 e0]) ∧ Below w.heap.size w w' := by
  have B := Below.refl w.heap.size w
  obtain ⟨a, cpv, rfl, hc⟩ := h.len
  have d1 : ((n : Int) != (n : Int)) = false := by simp
  have d2 : (e0 != 0) = true := by simpa using h0
  have HA := Lib.hid hA
  have HF := Lib.hid hF
  clear h hA hF
  go_enter Try.func49, Try.ntmps49
  go_upto_region 0 with fail
  refine wp_region_lit ?_
  try simp only [List.getElem_toArray, List.getElem_cons_zero, List.getElem_cons_succ]
  (refine wpList_boxB (t := 30) rfl _ rfl _ rfl ?_; intro b_r2 wn hle hge ht hbn hzn; have hsz := B.size; replace B := B.trans (hbn.mono (by omega)); have hln := Nat.lt_of_lt_of_eq (Nat.lt_succ_self _) hzn.symm; clear hzn; have r2 := ht; clear ht; simp only [Act.put, putS])
  (refine wpList_boxB (t := 68) rfl _ rfl _ rfl ?_; intro b_m3 wn hle hge ht hbn hzn; have hsz := B.size; replace B := B.trans (hbn.mono (by omega)); have hln := Nat.lt_of_lt_of_eq (Nat.lt_succ_self _) hzn.symm; clear hzn; (try first | (have hlt := r2.lt; replace r2 := r2.of_eq (hbn.block _ (by omega))) | replace r2 := r2.below (hbn.mono hle)); have m3 := ht; clear ht; simp only [Act.put, putS])
  (refine wpList_allocBk (t := 50) rfl _ (run_alloc_G _ _ rfl) ?_; intro b_g4 wn hle hge ht hbn hzn; have hsz := B.size; replace B := B.trans (hbn.mono (by omega)); have hln := Nat.lt_of_lt_of_eq (Nat.lt_succ_self _) hzn.symm; clear hzn; (try first | (have hlt := r2.lt; replace r2 := r2.of_eq (hbn.block _ (by omega))) | replace r2 := r2.below (hbn.mono hle)); (try first | (have hlt := m3.lt; replace m3 := m3.of_eq (hbn.block _ (by omega))) | replace m3 := m3.below (hbn.mono hle)); have g4 := ht; clear ht; simp only [Act.put, putS])
  refine wpList_nil ?_
  go_upto_region 1 with fail
  refine wp_region_lit ?_
  try simp only [List.getElem_toArray, List.getElem_cons_zero, List.getElem_cons_succ]
  refine wpList_chunk 2 (by kernel_rfl) ?_
  simp only [takS, Nat.reduceAdd]
  repeat (first | go_big_quiet_skip | (go_big_quiet_want; first | (refine quiet_loadAny (t := 64) rfl _ _ _ rfl (fun w hw => run_load_imR (ov_B m3 w hw)) (by first | rfl | omega) ?_; simp only [Act.put, putS]; go_big_quiet_on) | (refine quiet_loadAny (t := 64) rfl _ _ _ rfl (fun w hw => run_load_B (ov_B c7 w hw) Try.isAgg64 (by kernel_rfl)) (by rfl) ?_; simp only [Act.put, putS]; go_big_quiet_on) | (go_big_quiet_op; go_big_quiet_on)))
  refine wpQuiet_nil ?_
  refine wpList_callF (by first | rfl | simp [Region.wanted, yielded]) rfl (enters_of Try.func35 (by kernel_rfl) rfl) (by simp only [List.map_toArray, List.map_cons, List.map_nil, Act.eval, Array.getD_eq_getD_getElem?, List.getElem?_toArray, List.getElem?_cons_succ, List.getElem?_cons_zero, Option.getD_some]; rfl) ?_
  refine (R_ValidRB2 c true _ hV0).mono ?_
  rintro e wn ⟨rfl, hbn⟩
  have hsz := B.size
  have hzn := hbn.size
  replace B := B.trans (hbn.mono B.size)
  (try first | replace r2 := r2.of_eq (hbn.block _ r2.lt) | replace r2 := r2.below hbn)
  (try first | replace m3 := m3.of_eq (hbn.block _ m3.lt) | replace m3 := m3.below hbn)
  (try first | replace g4 := g4.of_eq (hbn.block _ g4.lt) | replace g4 := g4.below hbn)
  (try first | replace c7 := c7.of_eq (hbn.block _ c7.lt) | replace c7 := c7.below hbn)
  refine ⟨_, rfl, ?_⟩
  simp only [Act.put, putS]
  refine wpList_chunk 1 (by kernel_rfl) ?_
  simp only [takS, Nat.reduceAdd]
  repeat (first | go_big_quiet_skip | (go_big_quiet_want; first | (go_big_quiet_op; go_big_quiet_on)))
  refine wpQuiet_nil ?_
  refine wpList_nil ?_
  go_upto_region 2 with fail
  try simp only [List.getElem_toArray, List.getElem_cons_zero, List.getElem_cons_succ]
  try have lx_r2 := r2.lt
  try have lx_m3 := m3.lt
  try have lx_g4 := g4.lt
  try have lx_c7 := c7.lt
  refine wp_region_RL 11 [(5, detS ?v3_5), (8, detS ?v3_8)] (by kernel_rfl) (by kernel_rfl) (by kernel_rfl) ?_
  rotate_left 2
  simp only [takS, Nat.reduceAdd]
  refine wpRL_chunk 5 (by kernel_rfl) ?_
  simp only [takS, Nat.reduceAdd]
  repeat (first | go_big_quiet_skip | (go_big_quiet_want; first | (refine quiet_loadAny (t := 66) rfl _ _ _ rfl (fun w hw => run_load_slp (imgC_u (ov_B m3 w hw))) (by first | rfl | omega) ?_; simp only [Act.put, putS]; go_big_quiet_on) | (go_big_quiet_op; go_big_quiet_on)))
  refine wpQuiet_nil ?_
  refine wpRL_callB (by rfl) (by first | rfl | simp [Region.wanted, yielded]) ?_ ?_
  · intro wn hbn hE Kx hKx
    have hsz := B.size
    have hzn := hbn.size
    replace B := B.trans (hbn.mono B.size)
    (try first | replace r2 := r2.of_eq (hbn.block _ r2.lt) | replace r2 := r2.below hbn)
    (try first | replace m3 := m3.of_eq (hbn.block _ m3.lt) | replace m3 := m3.below hbn)
    (try first | replace g4 := g4.of_eq (hbn.block _ g4.lt) | replace g4 := g4.below hbn)
    (try first | replace c7 := c7.of_eq (hbn.block _ c7.lt) | replace c7 := c7.below hbn)
    refine wp_lenS rfl Try.underlying66 rfl ?_
    exact hKx () _ trivial (Below.refl _ _)
  rintro ⟨⟩
  dsimp only [detS]
  simp only [Act.put, putS]
  refine wpRL_chunk 2 (by kernel_rfl) ?_
  simp only [takS, Nat.reduceAdd]
  repeat (first | go_big_quiet_skip | (go_big_quiet_want; first | (refine quiet_loadAny (t := 64) rfl _ _ _ rfl (fun w hw => run_load_imR (ov_B m3 w hw)) (by first | rfl | omega) ?_; simp only [Act.put, putS]; go_big_quiet_on) | (refine quiet_loadAny (t := 64) rfl _ _ _ rfl (fun w hw => run_load_B (ov_B c7 w hw) Try.isAgg64 (by kernel_rfl)) (by rfl) ?_; simp only [Act.put, putS]; go_big_quiet_on) | (go_big_quiet_op; go_big_quiet_on)))
  refine wpQuiet_nil ?_
  refine wpRL_callB (by rfl) (by first | rfl | simp [Region.wanted, yielded]) ?_ ?_
  · intro wn hbn hE Kx hKx
    have hsz := B.size
    have hzn := hbn.size
    replace B := B.trans (hbn.mono B.size)
    (try first | replace r2 := r2.of_eq (hbn.block _ r2.lt) | replace r2 := r2.below hbn)
    (try first | replace m3 := m3.of_eq (hbn.block _ m3.lt) | replace m3 := m3.below hbn)
    (try first | replace g4 := g4.of_eq (hbn.block _ g4.lt) | replace g4 := g4.below hbn)
    (try first | replace c7 := c7.of_eq (hbn.block _ c7.lt) | replace c7 := c7.below hbn)
    refine wp_callF rfl (enters_of Try.func36 (by kernel_rfl) rfl) (by simp only [List.map_toArray, List.map_cons, List.map_nil, Act.eval, Array.getD_eq_getD_getElem?, List.getElem?_toArray, List.getElem?_cons_succ, List.getElem?_cons_zero, Option.getD_some]; rfl) ?_
    refine (R_AreaB2 c (n : Int) _ hV0 HA.out).mono ?_
    rintro e wm ⟨rfl, hbm⟩
    refine ⟨_, rfl, ?_⟩
    have hz := hKx () wm trivial hbm
    dsimp only [detS] at hz
    exact hz
  rintro ⟨⟩
  dsimp only [detS]
  simp only [Act.put, putS]
  refine wpRL_chunk 2 (by kernel_rfl) ?_
  simp only [takS, Nat.reduceAdd]
  repeat (first | go_big_quiet_skip | (go_big_quiet_want; first | (go_big_quiet_op; go_big_quiet_on)))
  refine wpQuiet_nil ?_
  refine wpRL_nil ?_
  intro wn hbn hE
  have hsz := B.size
  have hzn := hbn.size
  replace B := B.trans (hbn.mono B.size)
  (try first | replace r2 := r2.of_eq (hbn.block _ r2.lt) | replace r2 := r2.below hbn)
  (try first | replace m3 := m3.of_eq (hbn.block _ m3.lt) | replace m3 := m3.below hbn)
  (try first | replace g4 := g4.of_eq (hbn.block _ g4.lt) | replace g4 := g4.below hbn)
  (try first | replace c7 := c7.of_eq (hbn.block _ c7.lt) | replace c7 := c7.below hbn)
  clear hE
  try simp only [List.drop_succ_cons, List.drop_zero]
  refine NoPan.normal ?_
  go_upto_region 4 with fail
  refine wp_region_lit ?_
  try simp only [List.getElem_toArray, List.getElem_cons_zero, List.getElem_cons_succ]
  refine wpList_chunk 2 (by kernel_rfl) ?_
  simp only [takS, Nat.reduceAdd]
  repeat (first | go_big_quiet_skip | (go_big_quiet_want; first | (refine quiet_loadAny (t := 64) rfl _ _ _ rfl (fun w hw => run_load_imR (ov_B m3 w hw)) (by first | rfl | omega) ?_; simp only [Act.put, putS]; go_big_quiet_on) | (refine quiet_loadAny (t := 64) rfl _ _ _ rfl (fun w hw => run_load_B (ov_B c7 w hw) Try.isAgg64 (by kernel_rfl)) (by rfl) ?_; simp only [Act.put, putS]; go_big_quiet_on) | (go_big_quiet_op; go_big_quiet_on)))
  refine wpQuiet_nil ?_
  refine wpList_callF (by first | rfl | simp [Region.wanted, yielded]) rfl (enters_of Try.func81 (by kernel_rfl) rfl) (by simp only [List.map_toArray, List.map_cons, List.map_nil, Act.eval, Array.getD_eq_getD_getElem?, List.getElem?_toArray, List.getElem?_cons_succ, List.getElem?_cons_zero, Option.getD_some]; rfl) ?_
  refine (R_fitsB c e0 _ HF.out).mono ?_
  rintro e wn ⟨rfl, hbn⟩
  have hsz := B.size
  have hzn := hbn.size
  replace B := B.trans (hbn.mono B.size)
  (try first | replace r2 := r2.of_eq (hbn.block _ r2.lt) | replace r2 := r2.below hbn)
  (try first | replace m3 := m3.of_eq (hbn.block _ m3.lt) | replace m3 := m3.below hbn)
  (try first | replace g4 := g4.of_eq (hbn.block _ g4.lt) | replace g4 := g4.below hbn)
  (try first | replace c7 := c7.of_eq (hbn.block _ c7.lt) | replace c7 := c7.below hbn)
  refine ⟨_, rfl, ?_⟩
  simp only [Act.put, putS]
  refine wpList_chunk 1 (by kernel_rfl) ?_
  simp only [takS, Nat.reduceAdd]
  repeat (first | go_big_quiet_skip | (go_big_quiet_want; first | (go_big_quiet_op; go_big_quiet_on)))
  refine wpQuiet_nil ?_
  refine wpList_nil ?_
  go_upto_region 5 with fail
  refine wp_region_lit ?_
  try simp only [List.getElem_toArray, List.getElem_cons_zero, List.getElem_cons_succ]
  refine wpList_chunk 2 (by kernel_rfl) ?_
  simp only [takS, Nat.reduceAdd]
  repeat (first | go_big_quiet_skip | (go_big_quiet_want; first | (go_big_quiet_op; go_big_quiet_on)))
  refine wpQuiet_nil ?_
  refine wpList_nil ?_
  go_upto_region 6 with fail
  refine wp_region_lit ?_
  try simp only [List.getElem_toArray, List.getElem_cons_zero, List.getElem_cons_succ]
  refine wpList_chunk 2 (by kernel_rfl) ?_
  simp only [takS, Nat.reduceAdd]
  repeat (first | go_big_quiet_skip | (go_big_quiet_want; first | (go_big_quiet_op; go_big_quiet_on)))
  refine wpQuiet_nil ?_
  (refine wpList_storeB (t := 50) rfl _ _ rfl _ rfl _ rfl g4 (by kernel_rfl) rfl (by simp [rcA, imgC, Value.oneCell']) ?_; clear g4; intro wn ht hcn hzn; have hsz := B.size; replace hzn := Nat.le_of_eq hzn.symm; replace B := Chg.below B hcn (by omega) B.size; (try replace r2 := r2.of_eq (hcn.block _ r2.lt (by omega))); (try replace m3 := m3.of_eq (hcn.block _ m3.lt (by omega))); (try replace c7 := c7.of_eq (hcn.block _ c7.lt (by omega))); have g4 := ht; clear ht; simp only [Act.put, putS])
  refine wpList_nil ?_
  go_wp2
  refine bodyPost_ret (results_B (t := 50) rfl _ _ (b_g4) rfl g4 Try.isAgg50 (by kernel_rfl)) rfl ?_
  exact ⟨rfl, B⟩
theorem addr_addN (b off n : Nat) : (Addr.add ⟨b, off, none⟩ n) = ⟨b, off + n, none⟩ := by
  unfold Addr.add; split
  · rename_i h; subst h; rfl
  · rfl
theorem rce_ne {g o b : Nat} {t : TypeId} {cs : Array Value} {ls : List (Int × Int)} {w : World} (h : RCellsE psE g o ls w) (hn : 0 < ls.length) (k : AtB t w b cs) (hs : ∀ (i : Nat) (n : Int), cs[i]? ≠ some (.int .i64 n)) : g ≠ b := by
  rintro rfl
  have h0 := h.2 0 _ (List.getElem?_eq_getElem hn) 0 (by omega)
  rw [(cells_of_block k).1] at h0
  exact hs _ _ h0
theorem rce_ps {g o : Nat} {ls : List (Int × Int)} {w : World} (h : RCellsE psE g o ls w) {i : Nat} {x y : Int} (hi : ls[i]? = some (x, y)) : (Instr.loadAt 24 (.pointer (some ⟨g, o + i * 2, none⟩))).run Try.prog w = .ok (.agg #[.int .i64 x, .int .i64 y]) w :=
  h.load Try.isAgg24 hi
theorem rce_psx {g o : Nat} {ls : List (Int × Int)} {w : World} (h : RCellsE psE g o ls w) {i : Nat} {x y : Int} (hi : ls[i]? = some (x, y)) : (Instr.loadAt 3 (.pointer (some ⟨g, o + i * 2, none⟩))).run Try.prog w = .ok (.int .i64 x) w :=
  run_load_int (by have := h.2 i _ hi 0 (by omega); rw [Nat.add_zero] at this; exact this)
theorem rce_psy {g o : Nat} {ls : List (Int × Int)} {w : World} (h : RCellsE psE g o ls w) {i : Nat} {x y : Int} (hi : ls[i]? = some (x, y)) : (Instr.loadAt 3 (.pointer (some ⟨g, o + i * 2 + 1, none⟩))).run Try.prog w = .ok (.int .i64 y) w :=
  run_load_int (by have := h.2 i _ hi 1 (by omega); rw [← Nat.add_assoc] at this; exact this)
set_option maxHeartbeats 4000000 in
theorem R_Paste_ok (v : Value) (ls : List TA) (c : Rc) (u : Value) (L : List Px) (w : World) (h : RS v ls w) (tk : TokL ls) (hn : ls.length ≤ maxLen) (hE : fitsE c = 0) (hu : RSE pxE u L w) (hL : L.length = areaN c) (okL : OkL L) : Calls Try.prog 49 #[.agg #[v], .agg (imgC c u)] w fun e w' => ∃ a cp, e = .returned (.agg #[.slice a (manyL (pstL c L (fineL ls) (posL c))).length cp, .int .i64 (manyE (pstL c L (fineL ls) (posL c)))]) ∧ RS (.slice a (manyL (pstL c L (fineL ls) (posL c))).length cp) (manyL (pstL c L (fineL ls) (posL c))) w' ∧ Below w.heap.size w w' := by
  have B := Below.refl w.heap.size w
  obtain ⟨a', c', hT⟩ := R_Of v ls w h tk hn
  have HT := Lib.hid hT
  clear hT
  obtain ⟨a, cpv, rfl, hc⟩ := h.len
  have HF := fitsE_zero hE
  have FT := Lib.hid HF
  obtain ⟨an1, an2⟩ := area_bd HF
  have hAN := Lib.hid (area_N HF)
  have HV := Lib.hid HF.valid
  obtain ⟨ad, cu, rfl, hcu⟩ := hu.len
  obtain ⟨g, o, rfl, ce⟩ := hu.at (by have := area_N HF; omega)
  have SR := Lib.hid (validL_srt (fineL_valid ls))
  have TK := Lib.hid (fineL_tok tk)
  have CK := Lib.hid (valid_clean (fineL_valid ls))
  have hfl := fineL_length ls
  have hNle := tlN_le HF
  have hNpos : 0 < tlN c := by
    have h1 := (area_bd (tl_fits HF)).1
    show 0 < areaN (tlR c)
    omega
  have OK := Lib.hid okL
  have HL := Lib.hid hL
  have HEE := Lib.hid hE
  have d1 : ((areaN c : Int) != (areaN c : Int)) = false := by simp
  rw [hL]
  rw [hL] at hcu
  clear h tk hu okL hL hE HF
  generalize hks : fineL ls = KS at *
  clear hks
  go_enter Try.func49, Try.ntmps49
  go_upto_region 0 with fail
  refine wp_region_lit ?_
  try simp only [List.getElem_toArray, List.getElem_cons_zero, List.getElem_cons_succ]
  (refine wpList_boxB (t := 30) rfl _ rfl _ rfl ?_; intro b_r2 wn hle hge ht hbn hzn; have hsz := B.size; replace B := B.trans (hbn.mono (by omega)); have hln := Nat.lt_of_lt_of_eq (Nat.lt_succ_self _) hzn.symm; clear hzn; (try first | (have hlt := ce.lt; replace ce := ce.of_eq (hbn.block _ (by omega))) | replace ce := ce.below (hbn.mono hle)); have r2 := ht; clear ht; simp only [Act.put, putS])
  (refine wpList_boxB (t := 68) rfl _ rfl _ rfl ?_; intro b_m3 wn hle hge ht hbn hzn; have hsz := B.size; replace B := B.trans (hbn.mono (by omega)); have hln := Nat.lt_of_lt_of_eq (Nat.lt_succ_self _) hzn.symm; clear hzn; (try first | (have hlt := r2.lt; replace r2 := r2.of_eq (hbn.block _ (by omega))) | replace r2 := r2.below (hbn.mono hle)); (try first | (have hlt := ce.lt; replace ce := ce.of_eq (hbn.block _ (by omega))) | replace ce := ce.below (hbn.mono hle)); have m3 := ht; clear ht; simp only [Act.put, putS])
  (refine wpList_allocBk (t := 50) rfl _ (run_alloc_G _ _ rfl) ?_; intro b_g4 wn hle hge ht hbn hzn; have hsz := B.size; replace B := B.trans (hbn.mono (by omega)); have hln := Nat.lt_of_lt_of_eq (Nat.lt_succ_self _) hzn.symm; clear hzn; (try first | (have hlt := r2.lt; replace r2 := r2.of_eq (hbn.block _ (by omega))) | replace r2 := r2.below (hbn.mono hle)); (try first | (have hlt := m3.lt; replace m3 := m3.of_eq (hbn.block _ (by omega))) | replace m3 := m3.below (hbn.mono hle)); (try first | (have hlt := ce.lt; replace ce := ce.of_eq (hbn.block _ (by omega))) | replace ce := ce.below (hbn.mono hle)); have g4 := ht; clear ht; simp only [Act.put, putS])
  refine wpList_nil ?_
  go_upto_region 1 with fail
  refine wp_region_lit ?_
  try simp only [List.getElem_toArray, List.getElem_cons_zero, List.getElem_cons_succ]
  refine wpList_chunk 2 (by kernel_rfl) ?_
  simp only [takS, Nat.reduceAdd]
  repeat (first | go_big_quiet_skip | (go_big_quiet_want; first | (refine quiet_loadAny (t := 64) rfl _ _ _ rfl (fun w hw => run_load_imR (ov_B m3 w hw)) (by first | rfl | omega) ?_; simp only [Act.put, putS]; go_big_quiet_on) | (refine quiet_loadAny (t := 64) rfl _ _ _ rfl (fun w hw => run_load_B (ov_B c7 w hw) Try.isAgg64 (by kernel_rfl)) (by rfl) ?_; simp only [Act.put, putS]; go_big_quiet_on) | (go_big_quiet_op; go_big_quiet_on)))
  refine wpQuiet_nil ?_
  refine wpList_callF (by first | rfl | simp [Region.wanted, yielded]) rfl (enters_of Try.func35 (by kernel_rfl) rfl) (by simp only [List.map_toArray, List.map_cons, List.map_nil, Act.eval, Array.getD_eq_getD_getElem?, List.getElem?_toArray, List.getElem?_cons_succ, List.getElem?_cons_zero, Option.getD_some]; rfl) ?_
  refine (R_ValidRB2 c true _ HV.out).mono ?_
  rintro e wn ⟨rfl, hbn⟩
  have hsz := B.size
  have hzn := hbn.size
  replace B := B.trans (hbn.mono B.size)
  (try first | replace r2 := r2.of_eq (hbn.block _ r2.lt) | replace r2 := r2.below hbn)
  (try first | replace m3 := m3.of_eq (hbn.block _ m3.lt) | replace m3 := m3.below hbn)
  (try first | replace g4 := g4.of_eq (hbn.block _ g4.lt) | replace g4 := g4.below hbn)
  (try first | replace c7 := c7.of_eq (hbn.block _ c7.lt) | replace c7 := c7.below hbn)
  (try first | replace ce := ce.of_eq (hbn.block _ ce.lt) | replace ce := ce.below hbn)
  refine ⟨_, rfl, ?_⟩
  simp only [Act.put, putS]
  refine wpList_chunk 1 (by kernel_rfl) ?_
  simp only [takS, Nat.reduceAdd]
  repeat (first | go_big_quiet_skip | (go_big_quiet_want; first | (go_big_quiet_op; go_big_quiet_on)))
  refine wpQuiet_nil ?_
  refine wpList_nil ?_
  go_upto_region 2 with fail
  try simp only [List.getElem_toArray, List.getElem_cons_zero, List.getElem_cons_succ]
  try have lx_r2 := r2.lt
  try have lx_m3 := m3.lt
  try have lx_g4 := g4.lt
  try have lx_c7 := c7.lt
  try have lx_ce := ce.lt
  refine wp_region_RL 11 [(5, detS ?v4_5), (8, detS ?v4_8)] (by kernel_rfl) (by kernel_rfl) (by kernel_rfl) ?_
  rotate_left 2
  simp only [takS, Nat.reduceAdd]
  refine wpRL_chunk 5 (by kernel_rfl) ?_
  simp only [takS, Nat.reduceAdd]
  repeat (first | go_big_quiet_skip | (go_big_quiet_want; first | (refine quiet_loadAny (t := 66) rfl _ _ _ rfl (fun w hw => run_load_slp (imgC_u (ov_B m3 w hw))) (by first | rfl | omega) ?_; simp only [Act.put, putS]; go_big_quiet_on) | (go_big_quiet_op; go_big_quiet_on)))
  refine wpQuiet_nil ?_
  refine wpRL_callB (by rfl) (by first | rfl | simp [Region.wanted, yielded]) ?_ ?_
  · intro wn hbn hE Kx hKx
    have hsz := B.size
    have hzn := hbn.size
    replace B := B.trans (hbn.mono B.size)
    (try first | replace r2 := r2.of_eq (hbn.block _ r2.lt) | replace r2 := r2.below hbn)
    (try first | replace m3 := m3.of_eq (hbn.block _ m3.lt) | replace m3 := m3.below hbn)
    (try first | replace g4 := g4.of_eq (hbn.block _ g4.lt) | replace g4 := g4.below hbn)
    (try first | replace c7 := c7.of_eq (hbn.block _ c7.lt) | replace c7 := c7.below hbn)
    (try first | replace ce := ce.of_eq (hbn.block _ ce.lt) | replace ce := ce.below hbn)
    refine wp_lenS rfl Try.underlying66 rfl ?_
    exact hKx () _ trivial (Below.refl _ _)
  rintro ⟨⟩
  dsimp only [detS]
  simp only [Act.put, putS]
  refine wpRL_chunk 2 (by kernel_rfl) ?_
  simp only [takS, Nat.reduceAdd]
  repeat (first | go_big_quiet_skip | (go_big_quiet_want; first | (refine quiet_loadAny (t := 64) rfl _ _ _ rfl (fun w hw => run_load_imR (ov_B m3 w hw)) (by first | rfl | omega) ?_; simp only [Act.put, putS]; go_big_quiet_on) | (refine quiet_loadAny (t := 64) rfl _ _ _ rfl (fun w hw => run_load_B (ov_B c7 w hw) Try.isAgg64 (by kernel_rfl)) (by rfl) ?_; simp only [Act.put, putS]; go_big_quiet_on) | (go_big_quiet_op; go_big_quiet_on)))
  refine wpQuiet_nil ?_
  refine wpRL_callB (by rfl) (by first | rfl | simp [Region.wanted, yielded]) ?_ ?_
  · intro wn hbn hE Kx hKx
    have hsz := B.size
    have hzn := hbn.size
    replace B := B.trans (hbn.mono B.size)
    (try first | replace r2 := r2.of_eq (hbn.block _ r2.lt) | replace r2 := r2.below hbn)
    (try first | replace m3 := m3.of_eq (hbn.block _ m3.lt) | replace m3 := m3.below hbn)
    (try first | replace g4 := g4.of_eq (hbn.block _ g4.lt) | replace g4 := g4.below hbn)
    (try first | replace c7 := c7.of_eq (hbn.block _ c7.lt) | replace c7 := c7.below hbn)
    (try first | replace ce := ce.of_eq (hbn.block _ ce.lt) | replace ce := ce.below hbn)
    refine wp_callF rfl (enters_of Try.func36 (by kernel_rfl) rfl) (by simp only [List.map_toArray, List.map_cons, List.map_nil, Act.eval, Array.getD_eq_getD_getElem?, List.getElem?_toArray, List.getElem?_cons_succ, List.getElem?_cons_zero, Option.getD_some]; rfl) ?_
    refine (R_AreaB2 c (areaN c : Int) _ HV.out hAN.out).mono ?_
    rintro e wm ⟨rfl, hbm⟩
    refine ⟨_, rfl, ?_⟩
    have hz := hKx () wm trivial hbm
    dsimp only [detS] at hz
    exact hz
  rintro ⟨⟩
  dsimp only [detS]
  simp only [Act.put, putS]
  refine wpRL_chunk 2 (by kernel_rfl) ?_
  simp only [takS, Nat.reduceAdd]
  repeat (first | go_big_quiet_skip | (go_big_quiet_want; first | (go_big_quiet_op; go_big_quiet_on)))
  refine wpQuiet_nil ?_
  refine wpRL_nil ?_
  intro wn hbn hE
  have hsz := B.size
  have hzn := hbn.size
  replace B := B.trans (hbn.mono B.size)
  (try first | replace r2 := r2.of_eq (hbn.block _ r2.lt) | replace r2 := r2.below hbn)
  (try first | replace m3 := m3.of_eq (hbn.block _ m3.lt) | replace m3 := m3.below hbn)
  (try first | replace g4 := g4.of_eq (hbn.block _ g4.lt) | replace g4 := g4.below hbn)
  (try first | replace c7 := c7.of_eq (hbn.block _ c7.lt) | replace c7 := c7.below hbn)
  (try first | replace ce := ce.of_eq (hbn.block _ ce.lt) | replace ce := ce.below hbn)
  clear hE
  try simp only [List.drop_succ_cons, List.drop_zero]
  refine NoPan.normal ?_
  go_upto_region 4 with fail
  refine wp_region_lit ?_
  try simp only [List.getElem_toArray, List.getElem_cons_zero, List.getElem_cons_succ]
  refine wpList_chunk 2 (by kernel_rfl) ?_
  simp only [takS, Nat.reduceAdd]
  repeat (first | go_big_quiet_skip | (go_big_quiet_want; first | (refine quiet_loadAny (t := 64) rfl _ _ _ rfl (fun w hw => run_load_imR (ov_B m3 w hw)) (by first | rfl | omega) ?_; simp only [Act.put, putS]; go_big_quiet_on) | (refine quiet_loadAny (t := 64) rfl _ _ _ rfl (fun w hw => run_load_B (ov_B c7 w hw) Try.isAgg64 (by kernel_rfl)) (by rfl) ?_; simp only [Act.put, putS]; go_big_quiet_on) | (go_big_quiet_op; go_big_quiet_on)))
  refine wpQuiet_nil ?_
  refine wpList_callF (by first | rfl | simp [Region.wanted, yielded]) rfl (enters_of Try.func81 (by kernel_rfl) rfl) (by simp only [List.map_toArray, List.map_cons, List.map_nil, Act.eval, Array.getD_eq_getD_getElem?, List.getElem?_toArray, List.getElem?_cons_succ, List.getElem?_cons_zero, Option.getD_some]; rfl) ?_
  refine (R_fitsB c 0 _ HEE.out).mono ?_
  rintro e wn ⟨rfl, hbn⟩
  have hsz := B.size
  have hzn := hbn.size
  replace B := B.trans (hbn.mono B.size)
  (try first | replace r2 := r2.of_eq (hbn.block _ r2.lt) | replace r2 := r2.below hbn)
  (try first | replace m3 := m3.of_eq (hbn.block _ m3.lt) | replace m3 := m3.below hbn)
  (try first | replace g4 := g4.of_eq (hbn.block _ g4.lt) | replace g4 := g4.below hbn)
  (try first | replace c7 := c7.of_eq (hbn.block _ c7.lt) | replace c7 := c7.below hbn)
  (try first | replace ce := ce.of_eq (hbn.block _ ce.lt) | replace ce := ce.below hbn)
  refine ⟨_, rfl, ?_⟩
  simp only [Act.put, putS]
  refine wpList_chunk 1 (by kernel_rfl) ?_
  simp only [takS, Nat.reduceAdd]
  repeat (first | go_big_quiet_skip | (go_big_quiet_want; first | (go_big_quiet_op; go_big_quiet_on)))
  refine wpQuiet_nil ?_
  refine wpList_nil ?_
  go_upto_region 5 with fail
  refine wp_region_lit ?_
  try simp only [List.getElem_toArray, List.getElem_cons_zero, List.getElem_cons_succ]
  refine wpList_chunk 2 (by kernel_rfl) ?_
  simp only [takS, Nat.reduceAdd]
  repeat (first | go_big_quiet_skip | (go_big_quiet_want; first | (go_big_quiet_op; go_big_quiet_on)))
  refine wpQuiet_nil ?_
  refine wpList_nil ?_
  go_upto_region 7 with fail
  refine wp_region_lit ?_
  try simp only [List.getElem_toArray, List.getElem_cons_zero, List.getElem_cons_succ]
  refine wpList_chunk 1 (by kernel_rfl) ?_
  simp only [takS, Nat.reduceAdd]
  repeat (first | go_big_quiet_skip | (go_big_quiet_want; first | (refine quiet_loadAny (t := 30) rfl _ _ _ rfl (fun w hw => run_load_B (ov_B r2 w hw) Try.isAgg30 (by kernel_rfl)) (by rfl) ?_; simp only [Act.put, putS]; go_big_quiet_on) | (go_big_quiet_op; go_big_quiet_on)))
  refine wpQuiet_nil ?_
  refine wpList_callF (by first | rfl | simp [Region.wanted, yielded]) rfl (enters_of Try.func70 (by kernel_rfl) rfl) (by simp only [List.map_toArray, List.map_cons, List.map_nil, Act.eval, Array.getD_eq_getD_getElem?, List.getElem?_toArray, List.getElem?_cons_succ, List.getElem?_cons_zero, Option.getD_some]; rfl) ?_
  refine ((HT.out _ B).1).mono ?_
  rintro e wn ⟨rfl, hbn⟩
  have hsz := B.size
  have hzn := hbn.size
  replace B := B.trans (hbn.mono B.size)
  (try first | replace r2 := r2.of_eq (hbn.block _ r2.lt) | replace r2 := r2.below hbn)
  (try first | replace m3 := m3.of_eq (hbn.block _ m3.lt) | replace m3 := m3.below hbn)
  (try first | replace g4 := g4.of_eq (hbn.block _ g4.lt) | replace g4 := g4.below hbn)
  (try first | replace c7 := c7.of_eq (hbn.block _ c7.lt) | replace c7 := c7.below hbn)
  (try first | replace ce := ce.of_eq (hbn.block _ ce.lt) | replace ce := ce.below hbn)
  refine ⟨_, rfl, ?_⟩
  simp only [Act.put, putS]
  (refine wpList_storeB (t := 30) rfl _ _ rfl _ rfl _ rfl r2 (by kernel_rfl) rfl (by simp [rcA, imgC, Value.oneCell']) ?_; clear r2; intro wn ht hcn hzn; have hsz := B.size; replace hzn := Nat.le_of_eq hzn.symm; replace B := Chg.below B hcn (by omega) B.size; (try replace m3 := m3.of_eq (hcn.block _ m3.lt (by omega))); (try replace g4 := g4.of_eq (hcn.block _ g4.lt (by omega))); (try replace c7 := c7.of_eq (hcn.block _ c7.lt (by omega))); (try replace ce := ce.of_eq (hcn.block _ ce.lt (by omega))); have r2 := ht; clear ht; simp only [Act.put, putS])
  refine wpList_nil ?_
  go_upto_region 8 with fail
  refine wp_region_lit ?_
  try simp only [List.getElem_toArray, List.getElem_cons_zero, List.getElem_cons_succ]
  refine wpList_chunk 2 (by kernel_rfl) ?_
  simp only [takS, Nat.reduceAdd]
  repeat (first | go_big_quiet_skip | (go_big_quiet_want; first | (refine quiet_loadAny (t := 64) rfl _ _ _ rfl (fun w hw => run_load_imR (ov_B m3 w hw)) (by first | rfl | omega) ?_; simp only [Act.put, putS]; go_big_quiet_on) | (refine quiet_loadAny (t := 64) rfl _ _ _ rfl (fun w hw => run_load_B (ov_B c7 w hw) Try.isAgg64 (by kernel_rfl)) (by rfl) ?_; simp only [Act.put, putS]; go_big_quiet_on) | (go_big_quiet_op; go_big_quiet_on)))
  refine wpQuiet_nil ?_
  (refine wpList_allocBk (t := 64) rfl _ (run_alloc_Rc _ _ rfl) ?_; intro b_c7 wn hle hge ht hbn hzn; have hsz := B.size; replace B := B.trans (hbn.mono (by omega)); have hln := Nat.lt_of_lt_of_eq (Nat.lt_succ_self _) hzn.symm; clear hzn; (try first | (have hlt := r2.lt; replace r2 := r2.of_eq (hbn.block _ (by omega))) | replace r2 := r2.below (hbn.mono hle)); (try first | (have hlt := m3.lt; replace m3 := m3.of_eq (hbn.block _ (by omega))) | replace m3 := m3.below (hbn.mono hle)); (try first | (have hlt := g4.lt; replace g4 := g4.of_eq (hbn.block _ (by omega))) | replace g4 := g4.below (hbn.mono hle)); (try first | (have hlt := c7.lt; replace c7 := c7.of_eq (hbn.block _ (by omega))) | replace c7 := c7.below (hbn.mono hle)); (try first | (have hlt := ce.lt; replace ce := ce.of_eq (hbn.block _ (by omega))) | replace ce := ce.below (hbn.mono hle)); have c7 := ht; clear ht; simp only [Act.put, putS])
  (refine wpList_storeB (t := 64) rfl _ _ rfl _ rfl _ rfl c7 (by kernel_rfl) rfl (by simp [rcA, imgC, Value.oneCell']) ?_; clear c7; intro wn ht hcn hzn; have hsz := B.size; replace hzn := Nat.le_of_eq hzn.symm; replace B := Chg.below B hcn (by omega) B.size; (try replace r2 := r2.of_eq (hcn.block _ r2.lt (by omega))); (try replace m3 := m3.of_eq (hcn.block _ m3.lt (by omega))); (try replace g4 := g4.of_eq (hcn.block _ g4.lt (by omega))); (try replace ce := ce.of_eq (hcn.block _ ce.lt (by omega))); have c7 := ht; clear ht; simp only [Act.put, putS])
  refine wpList_nil ?_
  replace c7 : AtB 64 _ b_c7 (rcA c) := c7
  have k2 : w.heap.size ≤ b_r2 := by omega
  have k3 : b_r2 < b_m3 := by have := r2.lt; omega
  have k4 : b_m3 < b_g4 := by have := m3.lt; omega
  have k7 : b_g4 < b_c7 := by have := g4.lt; omega
  go_upto_region 9 with fail
  refine wp_region_lit ?_
  try simp only [List.getElem_toArray, List.getElem_cons_zero, List.getElem_cons_succ]
  refine wpList_chunk 1 (by kernel_rfl) ?_
  simp only [takS, Nat.reduceAdd]
  repeat (first | go_big_quiet_skip | (go_big_quiet_want; first | (refine quiet_loadAny (t := 64) rfl _ _ _ rfl (fun w hw => run_load_imR (ov_B m3 w hw)) (by first | rfl | omega) ?_; simp only [Act.put, putS]; go_big_quiet_on) | (refine quiet_loadAny (t := 64) rfl _ _ _ rfl (fun w hw => run_load_B (ov_B c7 w hw) Try.isAgg64 (by kernel_rfl)) (by rfl) ?_; simp only [Act.put, putS]; go_big_quiet_on) | (go_big_quiet_op; go_big_quiet_on)))
  refine wpQuiet_nil ?_
  refine wpList_callF (by first | rfl | simp [Region.wanted, yielded]) rfl (enters_of Try.func97 (by kernel_rfl) rfl) (by simp only [List.map_toArray, List.map_cons, List.map_nil, Act.eval, Array.getD_eq_getD_getElem?, List.getElem?_toArray, List.getElem?_cons_succ, List.getElem?_cons_zero, Option.getD_some]; rfl) ?_
  refine (R_TilesL c _ FT.out).mono ?_
  rintro e wn ⟨ap, cpp, rfl, ps, hbn⟩
  have hsz := B.size
  have hzn := hbn.size
  replace B := B.trans (hbn.mono B.size)
  (try first | replace r2 := r2.of_eq (hbn.block _ r2.lt) | replace r2 := r2.below hbn)
  (try first | replace m3 := m3.of_eq (hbn.block _ m3.lt) | replace m3 := m3.below hbn)
  (try first | replace g4 := g4.of_eq (hbn.block _ g4.lt) | replace g4 := g4.below hbn)
  (try first | replace c7 := c7.of_eq (hbn.block _ c7.lt) | replace c7 := c7.below hbn)
  (try first | replace ce := ce.of_eq (hbn.block _ ce.lt) | replace ce := ce.below hbn)
  (try first | replace ps := ps.of_eq (hbn.block _ ps.lt) | replace ps := ps.below hbn)
  refine ⟨_, rfl, ?_⟩
  simp only [Act.put, putS]
  refine wpList_chunk 1 (by kernel_rfl) ?_
  simp only [takS, Nat.reduceAdd]
  repeat (first | go_big_quiet_skip | (go_big_quiet_want; first | (go_big_quiet_op; go_big_quiet_on)))
  refine wpQuiet_nil ?_
  refine wpList_nil ?_
  obtain ⟨gp, op, rfl, pc⟩ := ps.at (by rw [posL_len]; exact hNpos)
  clear ps
  have rs1 := (HT.out _ B).2
  have k9 : b_c7 < wn.heap.size := c7.lt
  have ngr : gp ≠ b_r2 := rce_ne pc (by rw [posL_len]; exact hNpos) r2 (fun i n => by cases i <;> simp)
  go_upto_region 10 with fail
  refine wp_region_lit ?_
  try simp only [List.getElem_toArray, List.getElem_cons_zero, List.getElem_cons_succ]
  refine wpList_chunk 1 (by kernel_rfl) ?_
  simp only [takS, Nat.reduceAdd]
  repeat (first | go_big_quiet_skip | (go_big_quiet_want; first | (go_big_quiet_op; go_big_quiet_on)))
  refine wpQuiet_nil ?_
  refine wpList_nil ?_
  go_wp2
  go_loopw [9, 10, 11, 12, 13, 14] (fun iv _ _ _ _ _ wr => ∃ (k n cp : Nat) (ad : Option Addr), k ≤ tlN c ∧ iv = .int .i64 (k : Int) ∧ n = (pstL c L KS ((posL c).take k)).length ∧ AtB 30 wr b_r2 #[.slice ad n cp] ∧ RS (.slice ad n cp) (pstL c L KS ((posL c).take k)) wr ∧ Below w.heap.size w wr ∧ AtB 68 wr b_m3 (imgC c (.slice (some ⟨g, o, none⟩) (areaN c) cu)) ∧ AtB 50 wr b_g4 #[.slice none 0 0, .int .i64 0] ∧ AtB 64 wr b_c7 (rcA c) ∧ RCellsE pxE g o L wr ∧ RCellsE psE gp op (posL c) wr) (fun iv _ _ _ _ _ _ => (tlN c - intOf iv).toNat)
  case atStart => exact ⟨0, _, _, _, by omega, rfl, rfl, r2, rs1, B, m3, g4, c7, ce, pc⟩
  case round =>
    clear B m3 g4 c7 ce pc r2 rs1
    obtain ⟨k, n, cp, ad, hk, rfl, hnM, r2, rs1, B, m3, g4, c7, ce, pc⟩ := hrel
    have hMl := pstL_len c L ((posL c).take k) KS
    rw [← hnM, List.length_take, posL_len] at hMl
    have hMb : n ≤ 3000 := by omega
    clear hMl
    have HNM := Lib.hid hnM
    have SM := Lib.hid (pstL_srt c L ((posL c).take k) KS SR.out)
    have TM := Lib.hid (pstL_tok OK.out ((posL c).take k) KS TK.out (c := c))
    have CM := Lib.hid (pstL_clean c L ((posL c).take k) KS CK.out)
    obtain ⟨M, hM⟩ : ∃ M, pstL c L KS ((posL c).take k) = M := ⟨_, rfl⟩
    rw [hM] at rs1
    have HM := Lib.hid hM
    have HNM' := Lib.hid (show n = M.length from by rw [← hM]; exact hnM)
    have SM' := Lib.hid (show Srt M from by rw [← hM]; exact SM.out)
    have TM' := Lib.hid (show TokL M from by rw [← hM]; exact TM.out)
    have CM' := Lib.hid (show CleanL M from by rw [← hM]; exact CM.out)
    clear hM hnM SM TM CM
    by_cases hkN : k < tlN c
    · have q1 : decide ((k : Int) < (tlN c : Int)) = true := decide_eq_true (by omega)
      have q2 : decide (k < tlN c) = true := decide_eq_true hkN
      obtain ⟨⟨x, y⟩, hxy⟩ : ∃ p, posP c k = p := ⟨_, rfl⟩
      have hpo := posL_at c hkN
      rw [hxy] at hpo
      have hwi := posP_in FT.out hkN
      rw [hxy] at hwi
      have hwi := of_decide_eq_true hwi
      obtain ⟨w1, w2, w3, w4⟩ := hwi
      dsimp only at w1 w2 w3 w4
      have HXY := Lib.hid hxy
      clear hxy
      have hpl := posL_len c
      go_upto_region 11 with fail
      refine wp_region_lit ?_
      try simp only [List.getElem_toArray, List.getElem_cons_zero, List.getElem_cons_succ]
      refine wpList_chunk 2 (by kernel_rfl) ?_
      simp only [takS, Nat.reduceAdd]
      repeat (first | go_big_quiet_skip | (go_big_quiet_want; first | (go_big_quiet_op; go_big_quiet_on)))
      refine wpQuiet_nil ?_
      refine wpList_lenS (by first | rfl | simp [Region.wanted, yielded]) rfl Try.underlying88 rfl ?_
      simp only [Act.put, putS]
      refine wpList_chunk 1 (by kernel_rfl) ?_
      simp only [takS, Nat.reduceAdd]
      repeat (first | go_big_quiet_skip | (go_big_quiet_want; first | (go_big_quiet_op; go_big_quiet_on)))
      refine wpQuiet_nil ?_
      refine wpList_nil ?_
      go_upto_region 13 with fail
      try simp only [List.getElem_toArray, List.getElem_cons_zero, List.getElem_cons_succ]
      try have lx_r2 := r2.lt
      try have lx_m3 := m3.lt
      try have lx_g4 := g4.lt
      try have lx_c7 := c7.lt
      try have lx_ce := ce.lt
      try have lx_pc := pc.lt
      try have lx_rs1 := rs1.lt
      refine wp_region_RL 7 [(5, detS ?v5_5), (6, ptrS (wr.heap.size) 40 (tileC (fun _ => Px.zero)))] (by kernel_rfl) (by kernel_rfl) (by kernel_rfl) ?_
      rotate_left 1
      simp only [takS, Nat.reduceAdd]
      refine wpRL_chunk 5 (by kernel_rfl) ?_
      simp only [takS, Nat.reduceAdd]
      repeat (first | go_big_quiet_skip | (go_big_quiet_want; first | (refine quiet_loadAny (t := 30) rfl _ _ _ rfl (fun w hw => run_load_B (ov_B r2 w hw) Try.isAgg30 (by kernel_rfl)) (by rfl) ?_; simp only [Act.put, putS]; go_big_quiet_on) | (refine quiet_loadAny (t := 24) rfl _ _ _ rfl (fun w hw => rce_ps (ov_rce pc w hw) hpo) (by first | rfl | omega) ?_; simp only [Act.put, putS]; go_big_quiet_on) | (go_big_quiet_op; go_big_quiet_on)))
      refine wpQuiet_nil ?_
      refine wpRL_callB (by rfl) (by first | rfl | simp [Region.wanted, yielded]) ?_ ?_
      · intro wn hbn hE Kx hKx
        have hsz := B.size
        have hzn := hbn.size
        replace B := B.trans (hbn.mono B.size)
        (try first | replace r2 := r2.of_eq (hbn.block _ r2.lt) | replace r2 := r2.below hbn)
        (try first | replace m3 := m3.of_eq (hbn.block _ m3.lt) | replace m3 := m3.below hbn)
        (try first | replace g4 := g4.of_eq (hbn.block _ g4.lt) | replace g4 := g4.below hbn)
        (try first | replace c7 := c7.of_eq (hbn.block _ c7.lt) | replace c7 := c7.below hbn)
        (try first | replace ce := ce.of_eq (hbn.block _ ce.lt) | replace ce := ce.below hbn)
        (try first | replace pc := pc.of_eq (hbn.block _ pc.lt) | replace pc := pc.below hbn)
        (try first | replace rs1 := rs1.of_eq (hbn.block _ rs1.lt) | replace rs1 := rs1.below hbn)
        refine wp_callF rfl (enters_of Try.func23 (by kernel_rfl) rfl) (by simp only [List.map_toArray, List.map_cons, List.map_nil, Act.eval, Array.getD_eq_getD_getElem?, List.getElem?_toArray, List.getElem?_cons_succ, List.getElem?_cons_zero, Option.getD_some]; rfl) ?_
        refine (R_TileO _ M x y _ rs1 (by rw [← HNM'.out]; unfold maxLen; omega)).mono ?_
        rintro e wm ⟨rfl, hbm⟩
        refine ⟨_, rfl, ?_⟩
        have hz := hKx () wm trivial hbm
        dsimp only [detS] at hz
        exact hz
      rintro ⟨⟩
      dsimp only [detS]
      simp only [Act.put, putS]
      refine wpRL_callB (by rfl) (by first | rfl | simp [Region.wanted, yielded]) ?_ ?_
      · intro wn hbn hE Kx hKx
        have hsz := B.size
        have hzn := hbn.size
        replace B := B.trans (hbn.mono B.size)
        (try first | replace r2 := r2.of_eq (hbn.block _ r2.lt) | replace r2 := r2.below hbn)
        (try first | replace m3 := m3.of_eq (hbn.block _ m3.lt) | replace m3 := m3.below hbn)
        (try first | replace g4 := g4.of_eq (hbn.block _ g4.lt) | replace g4 := g4.below hbn)
        (try first | replace c7 := c7.of_eq (hbn.block _ c7.lt) | replace c7 := c7.below hbn)
        (try first | replace ce := ce.of_eq (hbn.block _ ce.lt) | replace ce := ce.below hbn)
        (try first | replace pc := pc.of_eq (hbn.block _ pc.lt) | replace pc := pc.below hbn)
        (try first | replace rs1 := rs1.of_eq (hbn.block _ rs1.lt) | replace rs1 := rs1.below hbn)
        refine owp_allocBk (t := 40) _ (run_alloc_tile _ _ rfl) ?_
        intro b wm h1 h2 ht hbm hzm
        exact hKx b wm ⟨Nat.le_trans hbn.size h1, ht⟩ (hbm.mono h1)
      rintro b_t10
      dsimp only [detS, ptrS]
      simp only [Act.put, putS]
      refine wpRL_nil ?_
      intro wn hbn hE
      have hsz := B.size
      have hzn := hbn.size
      replace B := B.trans (hbn.mono B.size)
      (try first | replace r2 := r2.of_eq (hbn.block _ r2.lt) | replace r2 := r2.below hbn)
      (try first | replace m3 := m3.of_eq (hbn.block _ m3.lt) | replace m3 := m3.below hbn)
      (try first | replace g4 := g4.of_eq (hbn.block _ g4.lt) | replace g4 := g4.below hbn)
      (try first | replace c7 := c7.of_eq (hbn.block _ c7.lt) | replace c7 := c7.below hbn)
      (try first | replace ce := ce.of_eq (hbn.block _ ce.lt) | replace ce := ce.below hbn)
      (try first | replace pc := pc.of_eq (hbn.block _ pc.lt) | replace pc := pc.below hbn)
      (try first | replace t10 := t10.of_eq (hbn.block _ t10.lt) | replace t10 := t10.below hbn)
      (try first | replace rs1 := rs1.of_eq (hbn.block _ rs1.lt) | replace rs1 := rs1.below hbn)
      obtain ⟨hge_t10, t10⟩ : _ ∧ AtB _ _ _ _ := hE 6
      clear hE
      try simp only [List.drop_succ_cons, List.drop_zero]
      replace t10 : TileAt _ b_t10 (fun _ => Px.zero) := t10
      go_wp2_with (first | (refine wpList_storeT rfl _ _ rfl _ rfl _ rfl t10 ?_; have t10o := t10; clear t10; intro wn ht hcn hzn; (try replace rs1 := rs1.chgT t10o hcn); have hsz := B.size; replace hzn := Nat.le_of_eq hzn.symm; replace B := Chg.below B hcn (by omega) B.size; (try replace r2 := r2.of_eq (hcn.block _ r2.lt (by omega))); (try replace m3 := m3.of_eq (hcn.block _ m3.lt (by omega))); (try replace g4 := g4.of_eq (hcn.block _ g4.lt (by omega))); (try replace c7 := c7.of_eq (hcn.block _ c7.lt (by omega))); (try replace ce := ce.of_eq (hcn.block _ ce.lt (by omega))); (try replace pc := pc.of_eq (hcn.block _ pc.lt (by omega))); have t10 := ht; clear ht; simp only [Act.put, putS]) | fail)
      refine NoPan.normal ?_
      replace t10 : TileAt _ b_t10 (tileL M x y) := t10
      have HTT := Lib.hid (tileL_tok TM'.out x y)
      have HCT := Lib.hid (fun i (hi : i < 64) => tileL_cleanL CM'.out x y hi)
      obtain ⟨t, ht⟩ : ∃ t, tileL M x y = t := ⟨_, rfl⟩
      rw [ht] at t10 HTT HCT
      have HTE := Lib.hid ht
      clear ht
      have k10 : w.heap.size ≤ b_t10 := by omega
      have n10m3 : b_m3 ≠ b_t10 := Nat.ne_of_lt (Nat.lt_of_lt_of_le lx_m3 hge_t10)
      have n10g4 : b_g4 ≠ b_t10 := Nat.ne_of_lt (Nat.lt_of_lt_of_le lx_g4 hge_t10)
      have n10c7 : b_c7 ≠ b_t10 := Nat.ne_of_lt (Nat.lt_of_lt_of_le lx_c7 hge_t10)
      have n10ce : g ≠ b_t10 := Nat.ne_of_lt (Nat.lt_of_lt_of_le lx_ce hge_t10)
      have n10pc : gp ≠ b_t10 := Nat.ne_of_lt (Nat.lt_of_lt_of_le lx_pc hge_t10)
      have n10r2 : b_r2 ≠ b_t10 := Nat.ne_of_lt (Nat.lt_of_lt_of_le lx_r2 hge_t10)
      go_upto_region 14 with fail
      refine wp_region_lit ?_
      try simp only [List.getElem_toArray, List.getElem_cons_zero, List.getElem_cons_succ]
      refine wpList_chunk 1 (by kernel_rfl) ?_
      simp only [takS, Nat.reduceAdd]
      repeat (first | go_big_quiet_skip | (go_big_quiet_want; first | (go_big_quiet_op; go_big_quiet_on)))
      refine wpQuiet_nil ?_
      refine wpList_nil ?_
      go_wp2
      go_loopw [11] (fun jv wr => ∃ j : Nat, j ≤ 64 ∧ jv = .int .i64 (j : Int) ∧ TileAt wr b_t10 (runT (pstF c L) ⟨x, y, t⟩ j ()).2 ∧ Below w.heap.size w wr ∧ AtB 68 wr b_m3 (imgC c (.slice (some ⟨g, o, none⟩) (areaN c) cu)) ∧ AtB 50 wr b_g4 #[.slice none 0 0, .int .i64 0] ∧ AtB 64 wr b_c7 (rcA c) ∧ RCellsE pxE g o L wr ∧ RCellsE psE gp op (posL c) wr ∧ AtB 30 wr b_r2 #[.slice ad n cp] ∧ RS (.slice ad n cp) M wr) (fun jv _ => (64 - intOf jv).toNat)
      case atStart => exact ⟨0, by omega, rfl, t10, B, m3, g4, c7, ce, pc, r2, rs1⟩
      case round =>
        clear B m3 g4 c7 ce pc r2 rs1 t10
        obtain ⟨j, hj, rfl, t10, B, m3, g4, c7, ce, pc, r2, rs1⟩ := hrel
        by_cases hj64 : j < 64
        · have q3 : decide ((j : Int) < 64) = true := decide_eq_true (by omega)
          have d8 : (0 : Int) ≤ (j : Int) % 8 ∧ (j : Int) % 8 < 8 := by omega
          have d9 : (0 : Int) ≤ (j : Int) / 8 ∧ (j : Int) / 8 < 8 := by omega
          go_upto_region 15 with fail
          refine wp_region_lit ?_
          try simp only [List.getElem_toArray, List.getElem_cons_zero, List.getElem_cons_succ]
          refine wpList_chunk 2 (by kernel_rfl) ?_
          simp only [takS, Nat.reduceAdd]
          repeat (first | go_big_quiet_skip | (go_big_quiet_want; first | (go_big_quiet_op; go_big_quiet_on)))
          refine wpQuiet_nil ?_
          refine wpList_nil ?_
          go_upto_region 17 with fail
          refine wp_region_lit ?_
          try simp only [List.getElem_toArray, List.getElem_cons_zero, List.getElem_cons_succ]
          refine wpList_chunk 10 (by kernel_rfl) ?_
          simp only [takS, Nat.reduceAdd]
          repeat (first | go_big_quiet_skip | (go_big_quiet_want; first | (refine quiet_loadAny (t := 3) rfl _ _ _ rfl (fun w hw => rce_psx (ov_rce pc w hw) hpo) (by first | rfl | omega) ?_; simp only [Act.put, putS]; go_big_quiet_on) | (refine quiet_loadAny (t := 3) rfl _ _ _ rfl (fun w hw => rce_psy (ov_rce pc w hw) hpo) (by first | rfl | omega) ?_; simp only [Act.put, putS]; go_big_quiet_on) | (refine quiet_loadAny (t := 3) rfl _ _ _ rfl (fun w hw => run_load_int ((ov_B c7 w hw).cellL 0 rfl)) (by rfl) ?_; simp only [Act.put, putS]; go_big_quiet_on) | (refine quiet_loadAny (t := 3) rfl _ _ _ rfl (fun w hw => run_load_int ((ov_B c7 w hw).cellL 1 rfl)) (by rfl) ?_; simp only [Act.put, putS]; go_big_quiet_on) | (refine quiet_loadAny (t := 3) rfl _ _ _ rfl (fun w hw => run_load_int ((ov_B c7 w hw).cellL 2 rfl)) (by rfl) ?_; simp only [Act.put, putS]; go_big_quiet_on) | (go_big_quiet_op; go_big_quiet_on)))
          refine wpQuiet_nil ?_
          refine wpList_nil ?_
          go_upto_region 18 with fail
          refine wp_region_lit ?_
          try simp only [List.getElem_toArray, List.getElem_cons_zero, List.getElem_cons_succ]
          refine wpList_chunk 10 (by kernel_rfl) ?_
          simp only [takS, Nat.reduceAdd]
          repeat (first | go_big_quiet_skip | (go_big_quiet_want; first | (refine quiet_loadAny (t := 3) rfl _ _ _ rfl (fun w hw => rce_psx (ov_rce pc w hw) hpo) (by first | rfl | omega) ?_; simp only [Act.put, putS]; go_big_quiet_on) | (refine quiet_loadAny (t := 3) rfl _ _ _ rfl (fun w hw => rce_psy (ov_rce pc w hw) hpo) (by first | rfl | omega) ?_; simp only [Act.put, putS]; go_big_quiet_on) | (refine quiet_loadAny (t := 3) rfl _ _ _ rfl (fun w hw => run_load_int ((ov_B c7 w hw).cellL 0 rfl)) (by rfl) ?_; simp only [Act.put, putS]; go_big_quiet_on) | (refine quiet_loadAny (t := 3) rfl _ _ _ rfl (fun w hw => run_load_int ((ov_B c7 w hw).cellL 1 rfl)) (by rfl) ?_; simp only [Act.put, putS]; go_big_quiet_on) | (refine quiet_loadAny (t := 3) rfl _ _ _ rfl (fun w hw => run_load_int ((ov_B c7 w hw).cellL 2 rfl)) (by rfl) ?_; simp only [Act.put, putS]; go_big_quiet_on) | (go_big_quiet_op; go_big_quiet_on)))
          refine wpQuiet_nil ?_
          refine wpList_nil ?_
          have HE1 := Lib.hid (runT_rest (pstF c L) ⟨x, y, t⟩ () j j (Nat.le_refl _))
          cases hh : hasR c (8 * x + (j : Int) % 8) (8 * y + (j : Int) / 8) with
          | true =>
            have HH := Lib.hid hh
            go_upto_region 19 with fail
            refine wp_region_lit ?_
            try simp only [List.getElem_toArray, List.getElem_cons_zero, List.getElem_cons_succ]
            refine wpList_chunk 3 (by kernel_rfl) ?_
            simp only [takS, Nat.reduceAdd]
            repeat (first | go_big_quiet_skip | (go_big_quiet_want; first | (refine quiet_loadAny (t := 64) rfl _ _ _ rfl (fun w hw => run_load_imR (ov_B m3 w hw)) (by first | rfl | omega) ?_; simp only [Act.put, putS]; go_big_quiet_on) | (refine quiet_loadAny (t := 64) rfl _ _ _ rfl (fun w hw => run_load_B (ov_B c7 w hw) Try.isAgg64 (by kernel_rfl)) (by rfl) ?_; simp only [Act.put, putS]; go_big_quiet_on) | (go_big_quiet_op; go_big_quiet_on)))
            refine wpQuiet_nil ?_
            refine wpList_callF (by first | rfl | simp [Region.wanted, yielded]) rfl (enters_of Try.func88 (by kernel_rfl) rfl) (by simp only [List.map_toArray, List.map_cons, List.map_nil, Act.eval, Array.getD_eq_getD_getElem?, List.getElem?_toArray, List.getElem?_cons_succ, List.getElem?_cons_zero, Option.getD_some]; rfl) ?_
            refine (R_HasO c (8 * x + (j : Int) % 8) (8 * y + (j : Int) / 8) true _ HH.out).mono ?_
            rintro e wn ⟨rfl, hbn⟩
            have hsz := B.size
            have hzn := hbn.size
            replace B := B.trans (hbn.mono B.size)
            (try first | replace r2 := r2.of_eq (hbn.block _ r2.lt) | replace r2 := r2.below hbn)
            (try first | replace m3 := m3.of_eq (hbn.block _ m3.lt) | replace m3 := m3.below hbn)
            (try first | replace g4 := g4.of_eq (hbn.block _ g4.lt) | replace g4 := g4.below hbn)
            (try first | replace c7 := c7.of_eq (hbn.block _ c7.lt) | replace c7 := c7.below hbn)
            (try first | replace ce := ce.of_eq (hbn.block _ ce.lt) | replace ce := ce.below hbn)
            (try first | replace pc := pc.of_eq (hbn.block _ pc.lt) | replace pc := pc.below hbn)
            (try first | replace t10 := t10.of_eq (hbn.block _ t10.lt) | replace t10 := t10.below hbn)
            replace rs1 := rs1.below hbn
            refine ⟨_, rfl, ?_⟩
            simp only [Act.put, putS]
            refine wpList_chunk 1 (by kernel_rfl) ?_
            simp only [takS, Nat.reduceAdd]
            repeat (first | go_big_quiet_skip | (go_big_quiet_want; first | (go_big_quiet_op; go_big_quiet_on)))
            refine wpQuiet_nil ?_
            refine wpList_nil ?_
            go_upto_region 20 with fail
            refine wp_region_lit ?_
            try simp only [List.getElem_toArray, List.getElem_cons_zero, List.getElem_cons_succ]
            refine wpList_chunk 1 (by kernel_rfl) ?_
            simp only [takS, Nat.reduceAdd]
            repeat (first | go_big_quiet_skip | (go_big_quiet_want; first | (go_big_quiet_op; go_big_quiet_on)))
            refine wpQuiet_nil ?_
            refine wpList_nil ?_
            have HP := Lib.hid (show pstP c L (x * 8 + (j : Int) % 8) (y * 8 + (j : Int) / 8) (t j) = cleanP (pixL c L (8 * x + (j : Int) % 8) (8 * y + (j : Int) / 8)) from by
              rw [show x * 8 + (j : Int) % 8 = 8 * x + (j : Int) % 8 by omega, show y * 8 + (j : Int) / 8 = 8 * y + (j : Int) / 8 by omega]
              unfold pstP
              rw [hh]
              rfl)
            obtain ⟨m1, m2, m3', m4⟩ := idxI_bd FT.out hh
            have hix : (idxI c (8 * x + (j : Int) % 8) (8 * y + (j : Int) / 8)).toNat < L.length := by rw [HL.out]; exact m4
            have hpx : L[(idxI c (8 * x + (j : Int) % 8) (8 * y + (j : Int) / 8)).toNat]? = some (pixL c L (8 * x + (j : Int) % 8) (8 * y + (j : Int) / 8)) := by
              unfold pixL
              rw [List.getD_eq_getElem?_getD, List.getElem?_eq_getElem hix]
              rfl
            have hok := Lib.hid (pixL_ok OK.out (c := c) (8 * x + (j : Int) % 8) (8 * y + (j : Int) / 8))
            generalize pixL c L (8 * x + (j : Int) % 8) (8 * y + (j : Int) / 8) = pp at *
            obtain ⟨g1, g2, g3, g4'⟩ := of_decide_eq_true hh
            obtain ⟨a1, a2, a3, a4, a5, a6, a7, a8⟩ := FT.out
            have hidx : (8 * y + (j : Int) / 8 - c.y0) * (c.x1 - c.x0) + (8 * x + (j : Int) % 8) - c.x0 = idxI c (8 * x + (j : Int) % 8) (8 * y + (j : Int) / 8) := rfl
            have m5 : idxI c (8 * x + (j : Int) % 8) (8 * y + (j : Int) / 8) < (areaN c : Int) := by omega
            clear hh
            go_upto_region 21 with fail
            refine wp_region_lit ?_
            try simp only [List.getElem_toArray, List.getElem_cons_zero, List.getElem_cons_succ]
            refine wpList_chunk 20 (by kernel_rfl) ?_
            simp only [takS, Nat.reduceAdd]
            repeat (first | go_big_quiet_skip | (go_big_quiet_want; first | (refine quiet_loadAny (t := 66) rfl _ _ _ rfl (fun w hw => run_load_slp (imgC_u (ov_B m3 w hw))) (by first | rfl | omega) ?_; simp only [Act.put, putS]; go_big_quiet_on) | (refine quiet_loadAny (t := 3) rfl _ _ _ rfl (fun w hw => rce_psx (ov_rce pc w hw) hpo) (by first | rfl | omega) ?_; simp only [Act.put, putS]; go_big_quiet_on) | (refine quiet_loadAny (t := 3) rfl _ _ _ rfl (fun w hw => rce_psy (ov_rce pc w hw) hpo) (by first | rfl | omega) ?_; simp only [Act.put, putS]; go_big_quiet_on) | (refine quiet_loadAny (t := 37) rfl _ _ _ rfl (fun w hw => rce_px (ov_rce ce w hw) hpx) (by first | rfl | omega) ?_; simp only [Act.put, putS]; go_big_quiet_on) | (refine quiet_loadAny (t := 3) rfl _ _ _ rfl (fun w hw => run_load_int ((ov_B c7 w hw).cellL 0 rfl)) (by rfl) ?_; simp only [Act.put, putS]; go_big_quiet_on) | (refine quiet_loadAny (t := 3) rfl _ _ _ rfl (fun w hw => run_load_int ((ov_B c7 w hw).cellL 1 rfl)) (by rfl) ?_; simp only [Act.put, putS]; go_big_quiet_on) | (refine quiet_loadAny (t := 3) rfl _ _ _ rfl (fun w hw => run_load_int ((ov_B c7 w hw).cellL 2 rfl)) (by rfl) ?_; simp only [Act.put, putS]; go_big_quiet_on) | (go_big_quiet_op; go_big_quiet_on)))
            refine wpQuiet_nil ?_
            refine wpList_callF (by first | rfl | simp [Region.wanted, yielded]) rfl (enters_of Try.func31 (by kernel_rfl) rfl) (by simp only [List.map_toArray, List.map_cons, List.map_nil, Act.eval, Array.getD_eq_getD_getElem?, List.getElem?_toArray, List.getElem?_cons_succ, List.getElem?_cons_zero, Option.getD_some]; rfl) ?_
            refine (R_Clean pp _ hok.out).mono ?_
            rintro e wn ⟨rfl, hbn⟩
            have hsz := B.size
            have hzn := hbn.size
            replace B := B.trans (hbn.mono B.size)
            (try first | replace r2 := r2.of_eq (hbn.block _ r2.lt) | replace r2 := r2.below hbn)
            (try first | replace m3 := m3.of_eq (hbn.block _ m3.lt) | replace m3 := m3.below hbn)
            (try first | replace g4 := g4.of_eq (hbn.block _ g4.lt) | replace g4 := g4.below hbn)
            (try first | replace c7 := c7.of_eq (hbn.block _ c7.lt) | replace c7 := c7.below hbn)
            (try first | replace ce := ce.of_eq (hbn.block _ ce.lt) | replace ce := ce.below hbn)
            (try first | replace pc := pc.of_eq (hbn.block _ pc.lt) | replace pc := pc.below hbn)
            (try first | replace t10 := t10.of_eq (hbn.block _ t10.lt) | replace t10 := t10.below hbn)
            replace rs1 := rs1.below hbn
            refine ⟨_, rfl, ?_⟩
            simp only [Act.put, putS]
            refine wpList_chunk 1 (by kernel_rfl) ?_
            simp only [takS, Nat.reduceAdd]
            repeat (first | go_big_quiet_skip | (go_big_quiet_want; first | (go_big_quiet_op; go_big_quiet_on)))
            refine wpQuiet_nil ?_
            (refine wpList_storeTp rfl _ _ rfl _ _ (by first | rfl | exact congrArg (fun x => Value.pointer (some x)) (addr_addN _ _ _)) _ rfl t10 j (by omega) (by first | rfl | omega) ?_; have t10o := t10; clear t10; intro wn ht hcn hzn; (try replace rs1 := rs1.chgT t10o hcn); have hsz := B.size; replace hzn := Nat.le_of_eq hzn.symm; replace B := Chg.below B hcn (by omega) B.size; (try replace r2 := r2.of_eq (hcn.block _ r2.lt (by omega))); (try replace m3 := m3.of_eq (hcn.block _ m3.lt (by omega))); (try replace g4 := g4.of_eq (hcn.block _ g4.lt (by omega))); (try replace c7 := c7.of_eq (hcn.block _ c7.lt (by omega))); (try replace ce := ce.of_eq (hcn.block _ ce.lt (by omega))); (try replace pc := pc.of_eq (hcn.block _ pc.lt (by omega))); have t10 := ht; clear ht; simp only [Act.put, putS])
            refine wpList_nil ?_
            go_wp2
            go_roundw
            case rel => exact ⟨j + 1, by omega, by go_num, by show TileAt _ b_t10 (upd (runT (pstF c L) ⟨x, y, t⟩ j ()).2 j (pstP c L (x * 8 + (j : Int) % 8) (y * 8 + (j : Int) / 8) (t j))); rw [HP.out]; exact t10, B, m3, g4, c7, ce, pc, r2, rs1⟩
            case measure => simp [intOf]; omega
          | false =>
            have HH := Lib.hid hh
            go_upto_region 19 with fail
            refine wp_region_lit ?_
            try simp only [List.getElem_toArray, List.getElem_cons_zero, List.getElem_cons_succ]
            refine wpList_chunk 3 (by kernel_rfl) ?_
            simp only [takS, Nat.reduceAdd]
            repeat (first | go_big_quiet_skip | (go_big_quiet_want; first | (refine quiet_loadAny (t := 64) rfl _ _ _ rfl (fun w hw => run_load_imR (ov_B m3 w hw)) (by first | rfl | omega) ?_; simp only [Act.put, putS]; go_big_quiet_on) | (refine quiet_loadAny (t := 64) rfl _ _ _ rfl (fun w hw => run_load_B (ov_B c7 w hw) Try.isAgg64 (by kernel_rfl)) (by rfl) ?_; simp only [Act.put, putS]; go_big_quiet_on) | (go_big_quiet_op; go_big_quiet_on)))
            refine wpQuiet_nil ?_
            refine wpList_callF (by first | rfl | simp [Region.wanted, yielded]) rfl (enters_of Try.func88 (by kernel_rfl) rfl) (by simp only [List.map_toArray, List.map_cons, List.map_nil, Act.eval, Array.getD_eq_getD_getElem?, List.getElem?_toArray, List.getElem?_cons_succ, List.getElem?_cons_zero, Option.getD_some]; rfl) ?_
            refine (R_HasO c (8 * x + (j : Int) % 8) (8 * y + (j : Int) / 8) false _ HH.out).mono ?_
            rintro e wn ⟨rfl, hbn⟩
            have hsz := B.size
            have hzn := hbn.size
            replace B := B.trans (hbn.mono B.size)
            (try first | replace r2 := r2.of_eq (hbn.block _ r2.lt) | replace r2 := r2.below hbn)
            (try first | replace m3 := m3.of_eq (hbn.block _ m3.lt) | replace m3 := m3.below hbn)
            (try first | replace g4 := g4.of_eq (hbn.block _ g4.lt) | replace g4 := g4.below hbn)
            (try first | replace c7 := c7.of_eq (hbn.block _ c7.lt) | replace c7 := c7.below hbn)
            (try first | replace ce := ce.of_eq (hbn.block _ ce.lt) | replace ce := ce.below hbn)
            (try first | replace pc := pc.of_eq (hbn.block _ pc.lt) | replace pc := pc.below hbn)
            (try first | replace t10 := t10.of_eq (hbn.block _ t10.lt) | replace t10 := t10.below hbn)
            replace rs1 := rs1.below hbn
            refine ⟨_, rfl, ?_⟩
            simp only [Act.put, putS]
            refine wpList_chunk 1 (by kernel_rfl) ?_
            simp only [takS, Nat.reduceAdd]
            repeat (first | go_big_quiet_skip | (go_big_quiet_want; first | (go_big_quiet_op; go_big_quiet_on)))
            refine wpQuiet_nil ?_
            refine wpList_nil ?_
            go_upto_region 20 with fail
            refine wp_region_lit ?_
            try simp only [List.getElem_toArray, List.getElem_cons_zero, List.getElem_cons_succ]
            refine wpList_chunk 1 (by kernel_rfl) ?_
            simp only [takS, Nat.reduceAdd]
            repeat (first | go_big_quiet_skip | (go_big_quiet_want; first | (go_big_quiet_op; go_big_quiet_on)))
            refine wpQuiet_nil ?_
            refine wpList_nil ?_
            have HP := Lib.hid (show pstP c L (x * 8 + (j : Int) % 8) (y * 8 + (j : Int) / 8) (t j) = t j from by
              rw [show x * 8 + (j : Int) % 8 = 8 * x + (j : Int) % 8 by omega, show y * 8 + (j : Int) / 8 = 8 * y + (j : Int) / 8 by omega]
              unfold pstP
              rw [hh]
              rfl)
            clear hh
            go_wp2
            go_roundw
            case rel => exact ⟨j + 1, by omega, by go_num, by show TileAt _ b_t10 (upd (runT (pstF c L) ⟨x, y, t⟩ j ()).2 j (pstP c L (x * 8 + (j : Int) % 8) (y * 8 + (j : Int) / 8) (t j))); rw [HP.out, upd_self _ _ _ HE1.out]; exact t10, B, m3, g4, c7, ce, pc, r2, rs1⟩
            case measure => simp [intOf]; omega
        · obtain rfl : j = 64 := by omega
          have q3 : decide (((64 : Nat) : Int) < 64) = false := by decide
          rw [runT_pst64] at t10
          have HTC := Lib.hid (fun i (hi : i < 64) => pstT_clean c L x y HCT.out i hi)
          have HTK := Lib.hid (pstT_tok OK.out x y HTT.out (c := c))
          go_upto_region 15 with fail
          refine wp_region_lit ?_
          try simp only [List.getElem_toArray, List.getElem_cons_zero, List.getElem_cons_succ]
          refine wpList_chunk 2 (by kernel_rfl) ?_
          simp only [takS, Nat.reduceAdd]
          repeat (first | go_big_quiet_skip | (go_big_quiet_want; first | (go_big_quiet_op; go_big_quiet_on)))
          refine wpQuiet_nil ?_
          refine wpList_nil ?_
          go_upto_region 22 with fail
          try simp only [List.getElem_toArray, List.getElem_cons_zero, List.getElem_cons_succ]
          try have lx_r2 := r2.lt
          try have lx_m3 := m3.lt
          try have lx_g4 := g4.lt
          try have lx_c7 := c7.lt
          try have lx_ce := ce.lt
          try have lx_pc := pc.lt
          try have lx_t10 := t10.lt
          try have lx_rs1 := rs1.lt
          refine wp_region_RL 7 [(6, rasS (putL M x y (cleanT (pstT c L x y t))))] (by kernel_rfl) (by kernel_rfl) (by kernel_rfl) ?_
          rotate_left 0
          simp only [takS, Nat.reduceAdd]
          refine wpRL_chunk 6 (by kernel_rfl) ?_
          simp only [takS, Nat.reduceAdd]
          repeat (first | go_big_quiet_skip | (go_big_quiet_want; first | (refine quiet_loadAny (t := 30) rfl _ _ _ rfl (fun w hw => run_load_B (ov_B r2 w hw) Try.isAgg30 (by kernel_rfl)) (by rfl) ?_; simp only [Act.put, putS]; go_big_quiet_on) | (refine quiet_loadAny (t := 24) rfl _ _ _ rfl (fun w hw => rce_ps (ov_rce pc w hw) hpo) (by first | rfl | omega) ?_; simp only [Act.put, putS]; go_big_quiet_on) | (refine quiet_loadT rfl _ rfl (ov_tile t10) ?_; simp only [Act.put, putS]; go_big_quiet_on) | (go_big_quiet_op; go_big_quiet_on)))
          refine wpQuiet_nil ?_
          refine wpRL_callB (by rfl) (by first | rfl | simp [Region.wanted, yielded]) ?_ ?_
          · intro wn hbn hE Kx hKx
            have hsz := B.size
            have hzn := hbn.size
            replace B := B.trans (hbn.mono B.size)
            (try first | replace r2 := r2.of_eq (hbn.block _ r2.lt) | replace r2 := r2.below hbn)
            (try first | replace m3 := m3.of_eq (hbn.block _ m3.lt) | replace m3 := m3.below hbn)
            (try first | replace g4 := g4.of_eq (hbn.block _ g4.lt) | replace g4 := g4.below hbn)
            (try first | replace c7 := c7.of_eq (hbn.block _ c7.lt) | replace c7 := c7.below hbn)
            (try first | replace ce := ce.of_eq (hbn.block _ ce.lt) | replace ce := ce.below hbn)
            (try first | replace pc := pc.of_eq (hbn.block _ pc.lt) | replace pc := pc.below hbn)
            (try first | replace t10 := t10.of_eq (hbn.block _ t10.lt) | replace t10 := t10.below hbn)
            (try first | replace rs1 := rs1.of_eq (hbn.block _ rs1.lt) | replace rs1 := rs1.below hbn)
            refine wp_callF rfl (enters_of Try.func75 (by kernel_rfl) rfl) (by simp only [List.map_toArray, List.map_cons, List.map_nil, Act.eval, Array.getD_eq_getD_getElem?, List.getElem?_toArray, List.getElem?_cons_succ, List.getElem?_cons_zero, Option.getD_some]; rfl) ?_
            refine (R_put _ M x y (pstT c L x y t) (cleanT (pstT c L x y t)) _ rs1 SM'.out HTK.out rfl (by rw [← HNM'.out]; omega)).mono ?_
            rintro e wm ⟨v', rfl, hr, hbm⟩
            obtain ⟨a', c', rfl, _⟩ := hr.len
            exact ⟨_, rfl, hKx (a', c') wm hr hbm⟩
          rintro ⟨a110, c110⟩
          dsimp only [detS, rasS]
          simp only [Act.put, putS]
          refine wpRL_nil ?_
          intro wn hbn hE
          have hsz := B.size
          have hzn := hbn.size
          replace B := B.trans (hbn.mono B.size)
          (try first | replace r2 := r2.of_eq (hbn.block _ r2.lt) | replace r2 := r2.below hbn)
          (try first | replace m3 := m3.of_eq (hbn.block _ m3.lt) | replace m3 := m3.below hbn)
          (try first | replace g4 := g4.of_eq (hbn.block _ g4.lt) | replace g4 := g4.below hbn)
          (try first | replace c7 := c7.of_eq (hbn.block _ c7.lt) | replace c7 := c7.below hbn)
          (try first | replace ce := ce.of_eq (hbn.block _ ce.lt) | replace ce := ce.below hbn)
          (try first | replace pc := pc.of_eq (hbn.block _ pc.lt) | replace pc := pc.below hbn)
          (try first | replace t10 := t10.of_eq (hbn.block _ t10.lt) | replace t10 := t10.below hbn)
          (try first | replace rs1 := rs1.of_eq (hbn.block _ rs1.lt) | replace rs1 := rs1.below hbn)
          have rs2 := hE 6
          change RS _ _ _ at rs2
          clear hE
          try simp only [List.drop_succ_cons, List.drop_zero]
          go_wp2_with (first | (refine wpList_storeB (t := 30) rfl _ _ rfl _ rfl _ rfl r2 (by kernel_rfl) rfl (by simp [Value.oneCell']) ?_; have r2o := r2; clear r2; intro wn ht hcn hzn; (try replace rs2 := rs2.chg r2o (by simp) hcn); have hsz := B.size; replace hzn := Nat.le_of_eq hzn.symm; replace B := Chg.below B hcn (by omega) B.size; (try replace m3 := m3.of_eq (hcn.block _ m3.lt (by omega))); (try replace g4 := g4.of_eq (hcn.block _ g4.lt (by omega))); (try replace c7 := c7.of_eq (hcn.block _ c7.lt (by omega))); (try replace ce := ce.of_eq (hcn.block _ ce.lt (by omega))); (try replace pc := pc.of_eq (hcn.block _ pc.lt (by omega))); (try replace t10 := t10.of_eq (hcn.block _ t10.lt (by omega))); have r2 := ht; clear ht; simp only [Act.put, putS]) | fail)
          refine NoPan.normal ?_
          go_wp2
          go_roundw
          case rel =>
            have hcg := putL_congr M x y (t := cleanT (pstT c L x y t)) (u := pstT c L x y t) (fun i hi => by show cleanP _ = _; exact HTC.out i hi)
            have hnx : pstL c L KS ((posL c).take (k + 1)) = putL M x y (pstT c L x y t) := by
              rw [posL_take c hkN, HXY.out, pstL_snoc, HM.out]
              show putL M x y (pstT c L x y (tileL M x y)) = _
              rw [HTE.out]
            exact ⟨k + 1, _, _, _, by omega, by go_num, by rw [hnx]; exact hcg.2, r2, by rw [hnx]; exact rs2.congr hcg.2 hcg.1, B, m3, g4, c7, ce, pc⟩
          case measure => simp [intOf]; omega
    · obtain rfl : k = tlN c := by omega
      have q1 : decide (((tlN c : Nat) : Int) < (tlN c : Int)) = false := decide_eq_false (by omega)
      have q2 : decide (tlN c < tlN c) = false := decide_eq_false (by omega)
      have hpl := posL_len c
      have hall : (posL c).take (tlN c) = posL c := List.take_of_length_le (by rw [hpl]; omega)
      rw [hall] at HM
      obtain rfl : n = M.length := HNM'.out
      go_upto_region 11 with fail
      refine wp_region_lit ?_
      try simp only [List.getElem_toArray, List.getElem_cons_zero, List.getElem_cons_succ]
      refine wpList_chunk 2 (by kernel_rfl) ?_
      simp only [takS, Nat.reduceAdd]
      repeat (first | go_big_quiet_skip | (go_big_quiet_want; first | (go_big_quiet_op; go_big_quiet_on)))
      refine wpQuiet_nil ?_
      refine wpList_lenS (by first | rfl | simp [Region.wanted, yielded]) rfl Try.underlying88 rfl ?_
      simp only [Act.put, putS]
      refine wpList_chunk 1 (by kernel_rfl) ?_
      simp only [takS, Nat.reduceAdd]
      repeat (first | go_big_quiet_skip | (go_big_quiet_want; first | (go_big_quiet_op; go_big_quiet_on)))
      refine wpQuiet_nil ?_
      refine wpList_nil ?_
      go_upto_region 23 with fail
      clear hall hpl q1 q2 HNM' d1
      by_cases hm : M.length ≤ 1024
      · have e1 : manyL M = M := if_pos hm
        have e2 : manyE M = 0 := if_pos hm
        refine wp_region_lit ?_
        try simp only [List.getElem_toArray, List.getElem_cons_zero, List.getElem_cons_succ]
        refine wpList_chunk 1 (by kernel_rfl) ?_
        simp only [takS, Nat.reduceAdd]
        repeat (first | go_big_quiet_skip | (go_big_quiet_want; first | (refine quiet_loadAny (t := 30) rfl _ _ _ rfl (fun w hw => run_load_B (ov_B r2 w hw) Try.isAgg30 (by kernel_rfl)) (by rfl) ?_; simp only [Act.put, putS]; go_big_quiet_on) | (go_big_quiet_op; go_big_quiet_on)))
        refine wpQuiet_nil ?_
        refine wpList_callF (by first | rfl | simp [Region.wanted, yielded]) rfl (enters_of Try.func74 (by kernel_rfl) rfl) (by simp only [List.map_toArray, List.map_cons, List.map_nil, Act.eval, Array.getD_eq_getD_getElem?, List.getElem?_toArray, List.getElem?_cons_succ, List.getElem?_cons_zero, Option.getD_some]; rfl) ?_
        refine (R_many _ _ _ _ (by unfold maxLen; omega)).mono ?_
        rintro e wn ⟨rfl, hbn⟩
        have hsz := B.size
        have hzn := hbn.size
        replace B := B.trans (hbn.mono B.size)
        (try first | replace g4 := g4.of_eq (hbn.block _ g4.lt) | replace g4 := g4.below hbn)
        (try first | replace m3 := m3.of_eq (hbn.block _ m3.lt) | replace m3 := m3.below hbn)
        (try first | replace g4 := g4.of_eq (hbn.block _ g4.lt) | replace g4 := g4.below hbn)
        (try first | replace c7 := c7.of_eq (hbn.block _ c7.lt) | replace c7 := c7.below hbn)
        (try first | replace ce := ce.of_eq (hbn.block _ ce.lt) | replace ce := ce.below hbn)
        (try first | replace pc := pc.of_eq (hbn.block _ pc.lt) | replace pc := pc.below hbn)
        replace rs1 := rs1.below hbn
        rw [if_pos hm]
        refine ⟨_, rfl, ?_⟩
        simp only [Act.put, putS]
        (refine wpList_storeB (t := 50) rfl _ _ rfl _ rfl _ rfl g4 (by kernel_rfl) rfl (by simp [Value.oneCell']) ?_; have g4o := g4; clear g4; intro wn ht hcn hzn; (try replace rs1 := rs1.chg g4o (by simp) hcn); have hsz := B.size; replace hzn := Nat.le_of_eq hzn.symm; replace B := Chg.below B hcn (by omega) B.size; (try replace m3 := m3.of_eq (hcn.block _ m3.lt (by omega))); (try replace c7 := c7.of_eq (hcn.block _ c7.lt (by omega))); (try replace ce := ce.of_eq (hcn.block _ ce.lt (by omega))); (try replace pc := pc.of_eq (hcn.block _ pc.lt (by omega))); (try replace r2 := r2.of_eq (hcn.block _ r2.lt (by omega))); have g4 := ht; clear ht; simp only [Act.put, putS])
        refine wpList_nil ?_
        clear e1 e2
        iterate 3 go_step
        refine bodyPost_ret (results_B (t := 50) rfl _ _ (b_g4) rfl g4 Try.isAgg50 (by kernel_rfl)) rfl ?_
        have e1 : manyL M = M := if_pos hm
        have e2 : manyE M = 0 := if_pos hm
        rw [HM.out, e1, e2]
        exact ⟨_, _, rfl, rs1, B⟩
      · have e1 : manyL M = [] := if_neg hm
        have e2 : manyE M = 2 := if_neg hm
        refine wp_region_lit ?_
        try simp only [List.getElem_toArray, List.getElem_cons_zero, List.getElem_cons_succ]
        refine wpList_chunk 1 (by kernel_rfl) ?_
        simp only [takS, Nat.reduceAdd]
        repeat (first | go_big_quiet_skip | (go_big_quiet_want; first | (refine quiet_loadAny (t := 30) rfl _ _ _ rfl (fun w hw => run_load_B (ov_B r2 w hw) Try.isAgg30 (by kernel_rfl)) (by rfl) ?_; simp only [Act.put, putS]; go_big_quiet_on) | (go_big_quiet_op; go_big_quiet_on)))
        refine wpQuiet_nil ?_
        refine wpList_callF (by first | rfl | simp [Region.wanted, yielded]) rfl (enters_of Try.func74 (by kernel_rfl) rfl) (by simp only [List.map_toArray, List.map_cons, List.map_nil, Act.eval, Array.getD_eq_getD_getElem?, List.getElem?_toArray, List.getElem?_cons_succ, List.getElem?_cons_zero, Option.getD_some]; rfl) ?_
        refine (R_many _ _ _ _ (by unfold maxLen; omega)).mono ?_
        rintro e wn ⟨rfl, hbn⟩
        have hsz := B.size
        have hzn := hbn.size
        replace B := B.trans (hbn.mono B.size)
        (try first | replace g4 := g4.of_eq (hbn.block _ g4.lt) | replace g4 := g4.below hbn)
        (try first | replace m3 := m3.of_eq (hbn.block _ m3.lt) | replace m3 := m3.below hbn)
        (try first | replace g4 := g4.of_eq (hbn.block _ g4.lt) | replace g4 := g4.below hbn)
        (try first | replace c7 := c7.of_eq (hbn.block _ c7.lt) | replace c7 := c7.below hbn)
        (try first | replace ce := ce.of_eq (hbn.block _ ce.lt) | replace ce := ce.below hbn)
        (try first | replace pc := pc.of_eq (hbn.block _ pc.lt) | replace pc := pc.below hbn)
        replace rs1 := rs1.below hbn
        rw [if_neg hm]
        refine ⟨_, rfl, ?_⟩
        simp only [Act.put, putS]
        (refine wpList_storeB (t := 50) rfl _ _ rfl _ rfl _ rfl g4 (by kernel_rfl) rfl (by simp [Value.oneCell']) ?_; have g4o := g4; clear g4; intro wn ht hcn hzn; (try replace rs1 := rs1.chg g4o (by simp) hcn); have hsz := B.size; replace hzn := Nat.le_of_eq hzn.symm; replace B := Chg.below B hcn (by omega) B.size; (try replace m3 := m3.of_eq (hcn.block _ m3.lt (by omega))); (try replace c7 := c7.of_eq (hcn.block _ c7.lt (by omega))); (try replace ce := ce.of_eq (hcn.block _ ce.lt (by omega))); (try replace pc := pc.of_eq (hcn.block _ pc.lt (by omega))); (try replace r2 := r2.of_eq (hcn.block _ r2.lt (by omega))); have g4 := ht; clear ht; simp only [Act.put, putS])
        refine wpList_nil ?_
        clear e1 e2
        iterate 3 go_step
        refine bodyPost_ret (results_B (t := 50) rfl _ _ (b_g4) rfl g4 Try.isAgg50 (by kernel_rfl)) rfl ?_
        have e1 : manyL M = [] := if_neg hm
        have e2 : manyE M = 2 := if_neg hm
        rw [HM.out, e1, e2]
        exact ⟨_, _, rfl, RS.nil _, B⟩
end Go.Proofs.Ytppccnjckiedlaa
/- Paste of both packages, whether the rectangle fits or not. -/
namespace Go.Proofs.Ytppccnjckiedlaa
open Go.RowKit Go.Shelf Pl
set_option linter.unusedVariables false
set_option linter.unusedSimpArgs false
theorem P_PasteA (v : Value) (ls : List TA) (c : Rc) (u : Value) (L : List Px) (w : World) (h : RS v ls w) (tk : TokL ls) (hn : ls.length ≤ maxLen) (hu : RSE pxE u L w) (hLn : L.length ≤ maxLen) (okL : OkL L) : Calls Try.prog 48 #[.agg #[v], .agg (imgC c u)] w fun e w' => ∃ a cp, e = .returned (.tuple #[.agg #[.slice a (pstR c L ls).length cp], .int .i64 (pstE c L ls)]) ∧ RS (.slice a (pstR c L ls).length cp) (pstR c L ls) w' ∧ Below w.heap.size w w' := by
  obtain ⟨ad, cu, rfl, hcu⟩ := hu.len
  by_cases hV : validR c = true
  · by_cases hA : (L.length : Int) = areaR c
    · have e1 : pstR c L ls = if fitsE c = 0 then manyL (pstL c L (fineL ls) (posL c)) else [] := if_pos ⟨hV, hA⟩
      have e2 : pstE c L ls = if fitsE c = 0 then manyE (pstL c L (fineL ls) (posL c)) else fitsE c := if_pos ⟨hV, hA⟩
      by_cases hF : fitsE c = 0
      · rw [e1, e2, if_pos hF, if_pos hF]
        have hL : L.length = areaN c := by have := area_N (fitsE_zero hF); omega
        exact P_Paste_ok v ls c _ L w h tk hn hF hu hL okL
      · rw [e1, e2, if_neg hF, if_neg hF]
        refine (P_Paste_big v ls c ad L.length cu w h hLn hV hA.symm _ rfl hF).mono fun e w' ⟨he, hb⟩ => ?_
        exact ⟨none, 0, he, RS.nil _, hb⟩
    · have e1 : pstR c L ls = [] := if_neg (fun e => hA e.2)
      have e2 : pstE c L ls = 1 := if_neg (fun e => hA e.2)
      rw [e1, e2]
      refine (P_Paste_len v ls c ad L.length cu w h hLn hV _ rfl hA).mono fun e w' ⟨he, hb⟩ => ?_
      exact ⟨none, 0, he, RS.nil _, hb⟩
  · have e1 : pstR c L ls = [] := if_neg (fun e => hV e.1)
    have e2 : pstE c L ls = 1 := if_neg (fun e => hV e.1)
    rw [e1, e2]
    refine (P_Paste_inv v ls c ad L.length cu w h hLn (by simpa using hV)).mono fun e w' ⟨he, hb⟩ => ?_
    exact ⟨none, 0, he, RS.nil _, hb⟩
theorem R_PasteA (v : Value) (ls : List TA) (c : Rc) (u : Value) (L : List Px) (w : World) (h : RS v ls w) (tk : TokL ls) (hn : ls.length ≤ maxLen) (hu : RSE pxE u L w) (hLn : L.length ≤ maxLen) (okL : OkL L) : Calls Try.prog 49 #[.agg #[v], .agg (imgC c u)] w fun e w' => ∃ a cp, e = .returned (.agg #[.slice a (pstR c L ls).length cp, .int .i64 (pstE c L ls)]) ∧ RS (.slice a (pstR c L ls).length cp) (pstR c L ls) w' ∧ Below w.heap.size w w' := by
  obtain ⟨ad, cu, rfl, hcu⟩ := hu.len
  by_cases hV : validR c = true
  · by_cases hA : (L.length : Int) = areaR c
    · have e1 : pstR c L ls = if fitsE c = 0 then manyL (pstL c L (fineL ls) (posL c)) else [] := if_pos ⟨hV, hA⟩
      have e2 : pstE c L ls = if fitsE c = 0 then manyE (pstL c L (fineL ls) (posL c)) else fitsE c := if_pos ⟨hV, hA⟩
      by_cases hF : fitsE c = 0
      · rw [e1, e2, if_pos hF, if_pos hF]
        have hL : L.length = areaN c := by have := area_N (fitsE_zero hF); omega
        exact R_Paste_ok v ls c _ L w h tk hn hF hu hL okL
      · rw [e1, e2, if_neg hF, if_neg hF]
        refine (R_Paste_big v ls c ad L.length cu w h hLn hV hA.symm _ rfl hF).mono fun e w' ⟨he, hb⟩ => ?_
        exact ⟨none, 0, he, RS.nil _, hb⟩
    · have e1 : pstR c L ls = [] := if_neg (fun e => hA e.2)
      have e2 : pstE c L ls = 1 := if_neg (fun e => hA e.2)
      rw [e1, e2]
      refine (R_Paste_len v ls c ad L.length cu w h hLn hV _ rfl hA).mono fun e w' ⟨he, hb⟩ => ?_
      exact ⟨none, 0, he, RS.nil _, hb⟩
  · have e1 : pstR c L ls = [] := if_neg (fun e => hV e.1)
    have e2 : pstE c L ls = 1 := if_neg (fun e => hV e.1)
    rw [e1, e2]
    refine (R_Paste_inv v ls c ad L.length cu w h hLn (by simpa using hV)).mono fun e w' ⟨he, hb⟩ => ?_
    exact ⟨none, 0, he, RS.nil _, hb⟩
theorem pstR_len (c : Rc) (L : List Px) (ls : List TA) : (pstR c L ls).length ≤ 1024 := (validL_iff.1 (pstR_valid c L ls)).1
end Go.Proofs.Ytppccnjckiedlaa
