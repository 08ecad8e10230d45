import Derived.Test.YtppccnjckiedlaaZp3
import Derived.Deep.MidRow
import Derived.Deep.Upon
import Derived.SizedLaws
import Derived.ChangeSlices
import Derived.Shelf.Abstract
import Derived.RangeFuncNested
import Derived.RangeFuncBound
import Derived.RangeFuncCalls
import Derived.RangeFuncLeaves
import Derived.OrdersIn
import Derived.OwnWalkIn
import Derived.TacticsInMore
import Derived.LoopNIn
import Derived.LoopIn
import Derived.RangeFuncFrom
import Derived.Sort.CutIn

/- Contract of gouacheref08.Made. -/
namespace Go.Proofs.Ytppccnjckiedlaa
open Go.RowKit Go.Shelf Pl
set_option linter.unusedVariables false
set_option linter.unusedSimpArgs false
set_option maxRecDepth 20000

theorem pickI_bd (L : List Int) (i : Nat) : 0 ≤ pickI L i 48 ∧ pickI L i 48 < 48 := by
  unfold pickI; split <;> omega
theorem R_pickB (v : Value) (L : List Int) (i : Nat) (j : Int) (hj : j = i) (w : World) (h : RSE inE v L w) (hn : L.length ≤ 17592186044416) : Calls Try.prog 61 #[v, .int .i64 j, .int .i64 48] w fun e w' => e = .returned (.int .i64 (pickI L i 48)) ∧ Below w.heap.size w w' := by
  subst hj
  exact (R_pick v L i 48 w h hn (by omega) (by omega)).mono fun e w' ⟨he, hw⟩ => ⟨he, hw ▸ Below.refl _ _⟩
/-- The raster that Made of gouacheref08 builds, after k rounds. -/
def madeK (L : List Int) : Nat → List TA
  | 0 => []
  | k + 1 => if 3 * k + 2 < L.length then setR (madeK L k) (pickI L (3 * k) 48 - 20) (pickI L (3 * k + 1) 48 - 20) (madeP (getI L (3 * k + 2))) else madeK L k
def madeL (L : List Int) : List TA := madeK L 40
theorem madeK_stop (L : List Int) (k : Nat) (h : ¬ 3 * k + 2 < L.length) : ∀ j, madeK L (k + j) = madeK L k
  | 0 => rfl
  | j + 1 => by
    show (if 3 * (k + j) + 2 < L.length then _ else _) = _
    rw [if_neg (by omega)]
    exact madeK_stop L k h j
theorem madeK_valid (L : List Int) : ∀ k, validL (madeK L k) = true
  | 0 => validL_nil
  | k + 1 => by
    show validL (if _ then _ else _) = true
    split
    · exact putR_valid _ _ _ _
    · exact madeK_valid L k
theorem madeK_tok (L : List Int) : ∀ k, TokL (madeK L k)
  | 0 => TokL.nil
  | k + 1 => by
    show TokL (if _ then _ else _)
    split
    · exact setR_tok (madeK_tok L k) (madeP_ok _)
    · exact madeK_tok L k
theorem madeK_len (L : List Int) (k : Nat) : (madeK L k).length ≤ 1024 := (validL_iff.1 (madeK_valid L k)).1
theorem run_load_ras {w : World} {b j : Nat} {v : Value} (h : w.cell? ⟨b, j, none⟩ = some v) : (Instr.loadAt 30 (.pointer (some ⟨b, j, none⟩))).run Try.prog w = .ok (.agg #[v]) w := by
  simp [go_sem, h]
set_option maxHeartbeats 2000000 in
theorem R_Made8 (v : Value) (L : List Int) (w : World) (h : RSE inE v L w) (hn : L.length ≤ 17592186044416) : Calls Try.prog 18 #[v] w fun e w' => ∃ v', e = .returned (.agg #[v']) ∧ RS v' (madeL L) w' ∧ Below w.heap.size w w' := by
  have B := Below.refl w.heap.size w
  have HL := Lib.hid h
  obtain ⟨a, c, rfl, hc⟩ := h.len
  clear h
  go_enter Try.func18, Try.ntmps18
  go_wp2_with (first | (refine wpList_storeB (t := 30) rfl _ _ rfl _ rfl _ rfl r3 (by kernel_rfl) rfl (by simp [Value.oneCell']) ?_; clear r3; intro wn ht hcn hzn; have hsz := B.size; replace hzn := Nat.le_of_eq hzn.symm; replace B := Chg.below B hcn (by omega) B.size; (try replace r2 := r2.of_eq (hcn.block _ r2.lt (by omega))); (try replace q5 := q5.of_eq (hcn.block _ q5.lt (by omega))); (try replace g6 := g6.of_eq (hcn.block _ g6.lt (by omega))); have r3 := ht; clear ht; simp only [Act.put, putS]) | (have _ := r2; refine wpList_allocBk (t := 30) rfl _ (run_alloc_R _ _ rfl) ?_; intro b_r3 wn hle hge ht hbn hzn; have hsz := B.size; replace B := B.trans (hbn.mono (by omega)); have hln := Nat.lt_of_lt_of_eq (Nat.lt_succ_self _) hzn.symm; clear hzn; (try first | (have hlt := r2.lt; replace r2 := r2.of_eq (hbn.block _ (by omega))) | replace r2 := r2.below (hbn.mono hle)); (try first | (have hlt := r3.lt; replace r3 := r3.of_eq (hbn.block _ (by omega))) | replace r3 := r3.below (hbn.mono hle)); (try first | (have hlt := q5.lt; replace q5 := q5.of_eq (hbn.block _ (by omega))) | replace q5 := q5.below (hbn.mono hle)); (try first | (have hlt := g6.lt; replace g6 := g6.of_eq (hbn.block _ (by omega))) | replace g6 := g6.below (hbn.mono hle)); have r3 := ht; clear ht; simp only [Act.put, putS]) | (refine wpList_allocBk (t := 30) rfl _ (run_alloc_R _ _ rfl) ?_; intro b_r2 wn hle hge ht hbn hzn; have hsz := B.size; replace B := B.trans (hbn.mono (by omega)); have hln := Nat.lt_of_lt_of_eq (Nat.lt_succ_self _) hzn.symm; clear hzn; (try first | (have hlt := r2.lt; replace r2 := r2.of_eq (hbn.block _ (by omega))) | replace r2 := r2.below (hbn.mono hle)); (try first | (have hlt := r3.lt; replace r3 := r3.of_eq (hbn.block _ (by omega))) | replace r3 := r3.below (hbn.mono hle)); (try first | (have hlt := q5.lt; replace q5 := q5.of_eq (hbn.block _ (by omega))) | replace q5 := q5.below (hbn.mono hle)); (try first | (have hlt := g6.lt; replace g6 := g6.of_eq (hbn.block _ (by omega))) | replace g6 := g6.below (hbn.mono hle)); have r2 := ht; clear ht; simp only [Act.put, putS]) | fail)
  go_loopw [4, 5, 6] (fun i _ _ wr => ∃ (k n : Nat) (a0 : Option Addr) (c0 : Nat), n = 3 * k ∧ k ≤ 40 ∧ i = .int .i64 n ∧ Below w.heap.size w wr ∧ AtB 30 wr b_r2 #[.slice none 0 0] ∧ AtB 30 wr b_r3 #[.slice a0 (madeK L k).length c0] ∧ RS (.slice a0 (madeK L k).length c0) (madeK L k) wr) (fun i _ _ _ => (120 - intOf i).toNat)
  case atStart => exact ⟨0, 0, none, 0, rfl, by omega, rfl, B, r2, r3, RS.nil _⟩
  case round =>
    clear B r2 r3
    obtain ⟨k, n, a0, c0, hn3, hk, rfl, B, r2, r3, rs⟩ := hrel
    have hml := madeK_len L k
    by_cases hq : n + 2 < L.length ∧ n < 120
    · obtain ⟨hix, hlt⟩ := hq
      have E := Lib.hid (show madeK L (k + 1) = setR (madeK L k) (pickI L n 48 - 20) (pickI L (n + 1) 48 - 20) (madeP (getI L (n + 2))) from by
        show (if _ then _ else _) = _
        rw [if_pos (by omega), hn3])
      have hk39 : k < 40 := by omega
      have HN := Lib.hid hn3
      clear hn3
      have d1 : decide ((n : Int) + 2 < (L.length : Int)) = true := decide_eq_true (by omega)
      have d2 : decide ((n : Int) < 120) = true := decide_eq_true (by omega)
      obtain ⟨g, o, rfl, rcw⟩ := HL.out.at (by omega)
      have rc := rcw.of_eq (B.block _ rcw.lt)
      have hb1 := pickI_bd L n
      have hb2 := pickI_bd L (n + 1)
      obtain ⟨x, hx⟩ : ∃ x, pickI L n 48 - 20 = x := ⟨_, rfl⟩
      obtain ⟨y, hy⟩ : ∃ y, pickI L (n + 1) 48 - 20 = y := ⟨_, rfl⟩
      have wx : (Lit.int .i64 x).wf = true := wf_mk (by omega) (by omega)
      have wy : (Lit.int .i64 y).wf = true := wf_mk (by omega) (by omega)
      rw [hx, hy] at E
      go_upto_region 6 with (first | (refine wpList_storePx rfl _ _ rfl _ rfl (_) rfl q5 ?_; have q5o := q5; clear q5; intro wn ht hcn hzn; replace rs := rs.chg (show AtB 37 _ b_q5 (pxA _) from q5o) (by simp [pxA]) hcn; have hsz := B.size; replace hzn := Nat.le_of_eq hzn.symm; replace B := Chg.below B hcn (by omega) B.size; (try replace r2 := r2.of_eq (hcn.block _ r2.lt (by omega))); (try replace r3 := r3.of_eq (hcn.block _ r3.lt (by omega))); (try replace g6 := g6.of_eq (hcn.block _ g6.lt (by omega))); have q5 := ht; clear ht; simp only [Act.put, putS]) | (have _ := r3; refine wpList_allocPx' rfl rfl ?_; intro b_q5 wn hle hge ht hbn hzn; have hsz := B.size; replace B := B.trans (hbn.mono (by omega)); have hln := Nat.lt_of_lt_of_eq (Nat.lt_succ_self _) hzn.symm; clear hzn; (try first | (have hlt := r2.lt; replace r2 := r2.of_eq (hbn.block _ (by omega))) | replace r2 := r2.below (hbn.mono hle)); (try first | (have hlt := r3.lt; replace r3 := r3.of_eq (hbn.block _ (by omega))) | replace r3 := r3.below (hbn.mono hle)); (try first | (have hlt := q5.lt; replace q5 := q5.of_eq (hbn.block _ (by omega))) | replace q5 := q5.below (hbn.mono hle)); (try first | (have hlt := g6.lt; replace g6 := g6.of_eq (hbn.block _ (by omega))) | replace g6 := g6.below (hbn.mono hle)); (try first | (have hlt := rs.lt; replace rs := rs.of_eq (hbn.block _ (by omega))) | replace rs := rs.below (hbn.mono hle)); have q5 := ht; clear ht; simp only [Act.put, putS]) | (go_at_call 24; refine (R_Made4 _ _).mono ?_; rintro e wn ⟨rfl, hbn⟩; have hsz := B.size; have hzn := hbn.size; replace B := B.trans (hbn.mono B.size); (try first | replace r2 := r2.of_eq (hbn.block _ r2.lt) | replace r2 := r2.below hbn); (try first | replace r3 := r3.of_eq (hbn.block _ r3.lt) | replace r3 := r3.below hbn); (try first | replace q5 := q5.of_eq (hbn.block _ q5.lt) | replace q5 := q5.below hbn); (try first | replace g6 := g6.of_eq (hbn.block _ g6.lt) | replace g6 := g6.below hbn); (try first | replace rs := rs.of_eq (hbn.block _ rs.lt) | replace rs := rs.below hbn)) | (refine wpList_loadAny (t := 3) rfl _ rfl _ _ _ rfl (run_load_int (rci_int rc (getD_some hix))) (by first | rfl | omega) ?_; simp only [Act.put, putS]) | fail)
      have q1 := q5.lt
      have q2 := r3.lt
      go_cut [6] from 25 to 36 (fun s wx => ∃ (b_g6 : Nat) (a1 : Option Addr) (c1 : Nat) (e1 : Int), s = .pointer (some ⟨b_g6, 0, none⟩) ∧ AtB 50 wx b_g6 #[.slice a1 (madeK L (k + 1)).length c1, .int .i64 e1] ∧ RS (.slice a1 (madeK L (k + 1)).length c1) (madeK L (k + 1)) wx ∧ Below w.heap.size w wx ∧ AtB 30 wx b_r2 #[.slice none 0 0] ∧ AtB 30 wx b_r3 #[.slice a0 (madeK L k).length c0])
      case first =>
        try have r2B := r2
        try have r3B := r3
        try have q5B := q5
        try have g6B := g6
        try have rsB := rs
        refine wp_region_X0 13 #[false, false, false, false, false, false, false, false, false, false, false, false, false, false] (by kernel_rfl) (by kernel_rfl) ?_
        intro wn hbn
        have hX := hbn
        have hsz := B.size
        have hzn := hbn.size
        replace B := B.trans (hbn.mono B.size)
        try first | replace r2 := r2.of_eq (hbn.block _ r2.lt) | replace r2 := r2.below hbn
        try first | replace r3 := r3.of_eq (hbn.block _ r3.lt) | replace r3 := r3.below hbn
        try first | replace q5 := q5.of_eq (hbn.block _ q5.lt) | replace q5 := q5.below hbn
        try first | replace g6 := g6.of_eq (hbn.block _ g6.lt) | replace g6 := g6.below hbn
        try first | replace rs := rs.of_eq (hbn.block _ rs.lt) | replace rs := rs.below hbn
        simp only [List.length_cons, List.length_nil, Nat.reduceAdd]
        refine anyX_take 0 rfl (by kernel_rfl) ⟨_, ov_of hX⟩ ?_
        intro K hK
        try simp only [List.getElem_toArray, List.getElem_cons_zero, List.getElem_cons_succ]
        (first | (refine quiet_loadAny (t := 30) rfl _ _ _ rfl (fun w hw => run_load_B (ov_B r3B w hw) Try.isAgg30 (by kernel_rfl)) (by rfl) ?_; simp only [Act.put, putS]; go_big_quiet_on) | (refine quiet_loadPx rfl _ rfl (ov_px q5B) ?_; simp only [Act.put, putS]; go_big_quiet_on) | (go_big_quiet_op; go_big_quiet_on))
        simp only [Act.put, putS]
        refine anyX_take 1 rfl (by kernel_rfl) ⟨_, ov_of hX⟩ ?_
        intro K hK
        try simp only [List.getElem_toArray, List.getElem_cons_zero, List.getElem_cons_succ]
        (first | (refine quiet_loadAny (t := 30) rfl _ _ _ rfl (fun w hw => run_load_B (ov_B r3B w hw) Try.isAgg30 (by kernel_rfl)) (by rfl) ?_; simp only [Act.put, putS]; go_big_quiet_on) | (refine quiet_loadPx rfl _ rfl (ov_px q5B) ?_; simp only [Act.put, putS]; go_big_quiet_on) | (go_big_quiet_op; go_big_quiet_on))
        simp only [Act.put, putS]
        refine anyX_take 2 rfl (by kernel_rfl) ⟨_, ov_of hX⟩ ?_
        intro K hK
        try simp only [List.getElem_toArray, List.getElem_cons_zero, List.getElem_cons_succ]
        (first | (refine quiet_loadAny (t := 30) rfl _ _ _ rfl (fun w hw => run_load_B (ov_B r3B w hw) Try.isAgg30 (by kernel_rfl)) (by rfl) ?_; simp only [Act.put, putS]; go_big_quiet_on) | (refine quiet_loadPx rfl _ rfl (ov_px q5B) ?_; simp only [Act.put, putS]; go_big_quiet_on) | (go_big_quiet_op; go_big_quiet_on))
        simp only [Act.put, putS]
        refine anyX_take 5 rfl (by kernel_rfl) ⟨_, ov_of hX⟩ ?_
        intro K hK
        try simp only [List.getElem_toArray, List.getElem_cons_zero, List.getElem_cons_succ]
        (first | (refine quiet_loadAny (t := 30) rfl _ _ _ rfl (fun w hw => run_load_B (ov_B r3B w hw) Try.isAgg30 (by kernel_rfl)) (by rfl) ?_; simp only [Act.put, putS]; go_big_quiet_on) | (refine quiet_loadPx rfl _ rfl (ov_px q5B) ?_; simp only [Act.put, putS]; go_big_quiet_on) | (go_big_quiet_op; go_big_quiet_on))
        simp only [Act.put, putS]
        refine anyX_take 6 rfl (by kernel_rfl) ⟨_, ov_of hX⟩ ?_
        intro K hK
        try simp only [List.getElem_toArray, List.getElem_cons_zero, List.getElem_cons_succ]
        (first | (refine quiet_loadAny (t := 30) rfl _ _ _ rfl (fun w hw => run_load_B (ov_B r3B w hw) Try.isAgg30 (by kernel_rfl)) (by rfl) ?_; simp only [Act.put, putS]; go_big_quiet_on) | (refine quiet_loadPx rfl _ rfl (ov_px q5B) ?_; simp only [Act.put, putS]; go_big_quiet_on) | (go_big_quiet_op; go_big_quiet_on))
        simp only [Act.put, putS]
        refine anyX_take 7 rfl (by kernel_rfl) ⟨_, ov_of hX⟩ ?_
        intro K hK
        try simp only [List.getElem_toArray, List.getElem_cons_zero, List.getElem_cons_succ]
        (first | (refine quiet_loadAny (t := 30) rfl _ _ _ rfl (fun w hw => run_load_B (ov_B r3B w hw) Try.isAgg30 (by kernel_rfl)) (by rfl) ?_; simp only [Act.put, putS]; go_big_quiet_on) | (refine quiet_loadPx rfl _ rfl (ov_px q5B) ?_; simp only [Act.put, putS]; go_big_quiet_on) | (go_big_quiet_op; go_big_quiet_on))
        simp only [Act.put, putS]
        refine anyX_take 10 rfl (by kernel_rfl) ⟨_, ov_of hX⟩ ?_
        intro K hK
        try simp only [List.getElem_toArray, List.getElem_cons_zero, List.getElem_cons_succ]
        (first | (refine quiet_loadAny (t := 30) rfl _ _ _ rfl (fun w hw => run_load_B (ov_B r3B w hw) Try.isAgg30 (by kernel_rfl)) (by rfl) ?_; simp only [Act.put, putS]; go_big_quiet_on) | (refine quiet_loadPx rfl _ rfl (ov_px q5B) ?_; simp only [Act.put, putS]; go_big_quiet_on) | (go_big_quiet_op; go_big_quiet_on))
        simp only [Act.put, putS]
        refine anyX_two 3 12 rfl rfl (by kernel_rfl) rfl rfl (fun K hK => ?_) (fun K hK => ?_)
        · skip
          try simp only [List.getElem_toArray, List.getElem_cons_zero, List.getElem_cons_succ]
          go_simp
          go_at_call 61
          refine (R_pickB _ L n _ rfl _ (HL.out.below B) hn).mono ?_
          rintro e wn ⟨rfl, hbn⟩
          have hsz := B.size
          have hzn := hbn.size
          have hsx := hX.size
          replace B := B.trans (hbn.mono B.size)
          replace hX := hX.trans (hbn.mono hX.size)
          try first | replace r2 := r2.of_eq (hbn.block _ r2.lt) | replace r2 := r2.below hbn
          try first | replace r3 := r3.of_eq (hbn.block _ r3.lt) | replace r3 := r3.below hbn
          try first | replace q5 := q5.of_eq (hbn.block _ q5.lt) | replace q5 := q5.below hbn
          try first | replace g6 := g6.of_eq (hbn.block _ g6.lt) | replace g6 := g6.below hbn
          try first | replace rs := rs.of_eq (hbn.block _ rs.lt) | replace rs := rs.below hbn
          refine hK _ _ ⟨fun _ => ⟨_, ov_of hX⟩, ?_⟩
          clear hK K
          try simp only [List.getElem_toArray, List.getElem_cons_zero, List.getElem_cons_succ]
          simp only [Act.put, putS]
          refine anyX_take 4 rfl (by kernel_rfl) ⟨_, ov_of hX⟩ ?_
          intro K hK
          try simp only [List.getElem_toArray, List.getElem_cons_zero, List.getElem_cons_succ]
          (first | (refine quiet_loadAny (t := 30) rfl _ _ _ rfl (fun w hw => run_load_B (ov_B r3B w hw) Try.isAgg30 (by kernel_rfl)) (by rfl) ?_; simp only [Act.put, putS]; go_big_quiet_on) | (refine quiet_loadPx rfl _ rfl (ov_px q5B) ?_; simp only [Act.put, putS]; go_big_quiet_on) | (go_big_quiet_op; go_big_quiet_on))
          simp only [Act.put, putS]
          refine anyX_two 8 12 rfl rfl (by kernel_rfl) rfl rfl (fun K hK => ?_) (fun K hK => ?_)
          · skip
            try simp only [List.getElem_toArray, List.getElem_cons_zero, List.getElem_cons_succ]
            go_simp
            go_at_call 61
            refine (R_pickB _ L (n + 1) _ (by omega) _ (HL.out.below B) hn).mono ?_
            rintro e wn ⟨rfl, hbn⟩
            have hsz := B.size
            have hzn := hbn.size
            have hsx := hX.size
            replace B := B.trans (hbn.mono B.size)
            replace hX := hX.trans (hbn.mono hX.size)
            try first | replace r2 := r2.of_eq (hbn.block _ r2.lt) | replace r2 := r2.below hbn
            try first | replace r3 := r3.of_eq (hbn.block _ r3.lt) | replace r3 := r3.below hbn
            try first | replace q5 := q5.of_eq (hbn.block _ q5.lt) | replace q5 := q5.below hbn
            try first | replace g6 := g6.of_eq (hbn.block _ g6.lt) | replace g6 := g6.below hbn
            try first | replace rs := rs.of_eq (hbn.block _ rs.lt) | replace rs := rs.below hbn
            refine hK _ _ ⟨fun _ => ⟨_, ov_of hX⟩, ?_⟩
            clear hK K
            try simp only [List.getElem_toArray, List.getElem_cons_zero, List.getElem_cons_succ]
            simp only [Act.put, putS]
            refine anyX_take 9 rfl (by kernel_rfl) ⟨_, ov_of hX⟩ ?_
            intro K hK
            try simp only [List.getElem_toArray, List.getElem_cons_zero, List.getElem_cons_succ]
            (first | (refine quiet_loadAny (t := 30) rfl _ _ _ rfl (fun w hw => run_load_B (ov_B r3B w hw) Try.isAgg30 (by kernel_rfl)) (by rfl) ?_; simp only [Act.put, putS]; go_big_quiet_on) | (refine quiet_loadPx rfl _ rfl (ov_px q5B) ?_; simp only [Act.put, putS]; go_big_quiet_on) | (go_big_quiet_op; go_big_quiet_on))
            simp only [Act.put, putS]
            refine anyX_two 11 12 rfl rfl (by kernel_rfl) rfl rfl (fun K hK => ?_) (fun K hK => ?_)
            · skip
              try simp only [List.getElem_toArray, List.getElem_cons_zero, List.getElem_cons_succ]
              go_simp
              go_at_call 27
              refine (R_SetR _ (madeK L k) x y _ _ rs (madeK_tok L k) (by unfold maxLen; omega) wx wy (madeP_ok _)).mono ?_
              rintro e wn ⟨v1, rfl, rs1, hbn⟩
              obtain ⟨a1, c1, rfl, hc1⟩ := rs1.len
              have hsz := B.size
              have hzn := hbn.size
              have hsx := hX.size
              replace B := B.trans (hbn.mono B.size)
              replace hX := hX.trans (hbn.mono hX.size)
              try first | replace r2 := r2.of_eq (hbn.block _ r2.lt) | replace r2 := r2.below hbn
              try first | replace r3 := r3.of_eq (hbn.block _ r3.lt) | replace r3 := r3.below hbn
              try first | replace q5 := q5.of_eq (hbn.block _ q5.lt) | replace q5 := q5.below hbn
              try first | replace g6 := g6.of_eq (hbn.block _ g6.lt) | replace g6 := g6.below hbn
              refine hK _ _ ⟨fun _ => ⟨_, ov_of hX⟩, ?_⟩
              clear hK K
              try simp only [List.getElem_toArray, List.getElem_cons_zero, List.getElem_cons_succ]
              simp only [Act.put, putS]
              refine anyX_next 12 rfl (by kernel_rfl) rfl (fun K hK => ?_)
              try simp only [List.getElem_toArray, List.getElem_cons_zero, List.getElem_cons_succ]
              refine owp_allocBk (t := 50) _ (run_alloc_G _ _ rfl) ?_
              intro b_g6 wn hle hge ht hbn hzn
              have hsz := B.size
              have hsx := hX.size
              replace B := B.trans (hbn.mono (by omega))
              replace hX := hX.trans (hbn.mono (by omega))
              try first | (have hlt := r2.lt; replace r2 := r2.of_eq (hbn.block _ (by omega))) | replace r2 := r2.below (hbn.mono hle)
              try first | (have hlt := r3.lt; replace r3 := r3.of_eq (hbn.block _ (by omega))) | replace r3 := r3.below (hbn.mono hle)
              try first | (have hlt := q5.lt; replace q5 := q5.of_eq (hbn.block _ (by omega))) | replace q5 := q5.below (hbn.mono hle)
              try first | (have hlt := g6.lt; replace g6 := g6.of_eq (hbn.block _ (by omega))) | replace g6 := g6.below (hbn.mono hle)
              try first | (have hlt := rs.lt; replace rs := rs.of_eq (hbn.block _ (by omega))) | replace rs := rs.below (hbn.mono hle)
              try first | (have hlt := rs1.lt; replace rs1 := rs1.of_eq (hbn.block _ (by omega))) | replace rs1 := rs1.below (hbn.mono hle)
              have g6 := ht
              clear ht
              refine hK _ _ ⟨fun _ => ⟨_, ov_of hX⟩, ?_⟩
              clear hK K
              try simp only [List.getElem_toArray, List.getElem_cons_zero, List.getElem_cons_succ]
              simp only [Act.put, putS]
              refine anyX_seq (by kernel_rfl) (by kernel_rfl) ?_
              simp only [List.drop_succ_cons, List.drop_zero]
              go_wp2_with (first | (refine wpList_storeB (t := 50) rfl _ _ rfl _ rfl _ rfl g6 (by kernel_rfl) rfl (by simp [Value.oneCell']) ?_; have g6o := g6; clear g6; intro wn ht hcn hzn; replace rs1 := rs1.chg g6o (by simp) hcn; have hsz := B.size; replace hzn := Nat.le_of_eq hzn.symm; replace B := Chg.below B hcn (by omega) B.size; (try replace r2 := r2.of_eq (hcn.block _ r2.lt (by omega))); (try replace r3 := r3.of_eq (hcn.block _ r3.lt (by omega))); (try replace q5 := q5.of_eq (hcn.block _ q5.lt (by omega))); have g6 := ht; clear ht; simp only [Act.put, putS]) | fail)
              refine NoPan.normal ?_
              go_wp2_with fail
              go_meet
              exact ⟨b_g6, a1, c1, _, rfl, by rw [E.out]; exact g6, by rw [E.out]; exact rs1, B, r2, r3⟩
            · skip
              try simp only [List.getElem_toArray, List.getElem_cons_zero, List.getElem_cons_succ]
              refine owp_allocBk (t := 50) _ (run_alloc_G _ _ rfl) ?_
              intro b_g6 wn hle hge ht hbn hzn
              have hsz := B.size
              have hsx := hX.size
              replace B := B.trans (hbn.mono (by omega))
              replace hX := hX.trans (hbn.mono (by omega))
              try first | (have hlt := r2.lt; replace r2 := r2.of_eq (hbn.block _ (by omega))) | replace r2 := r2.below (hbn.mono hle)
              try first | (have hlt := r3.lt; replace r3 := r3.of_eq (hbn.block _ (by omega))) | replace r3 := r3.below (hbn.mono hle)
              try first | (have hlt := q5.lt; replace q5 := q5.of_eq (hbn.block _ (by omega))) | replace q5 := q5.below (hbn.mono hle)
              try first | (have hlt := g6.lt; replace g6 := g6.of_eq (hbn.block _ (by omega))) | replace g6 := g6.below (hbn.mono hle)
              try first | (have hlt := rs.lt; replace rs := rs.of_eq (hbn.block _ (by omega))) | replace rs := rs.below (hbn.mono hle)
              try first | (have hlt := rs1.lt; replace rs1 := rs1.of_eq (hbn.block _ (by omega))) | replace rs1 := rs1.below (hbn.mono hle)
              have g6 := ht
              clear ht
              refine hK _ _ ⟨fun _ => ⟨_, ov_of hX⟩, ?_⟩
              clear hK K
              try simp only [List.getElem_toArray, List.getElem_cons_zero, List.getElem_cons_succ]
              simp only [Act.put, putS]
              refine anyX_next 11 rfl (by kernel_rfl) rfl (fun K hK => ?_)
              try simp only [List.getElem_toArray, List.getElem_cons_zero, List.getElem_cons_succ]
              go_simp
              go_at_call 27
              refine (R_SetR _ (madeK L k) x y _ _ rs (madeK_tok L k) (by unfold maxLen; omega) wx wy (madeP_ok _)).mono ?_
              rintro e wn ⟨v1, rfl, rs1, hbn⟩
              obtain ⟨a1, c1, rfl, hc1⟩ := rs1.len
              have hsz := B.size
              have hzn := hbn.size
              have hsx := hX.size
              replace B := B.trans (hbn.mono B.size)
              replace hX := hX.trans (hbn.mono hX.size)
              try first | replace r2 := r2.of_eq (hbn.block _ r2.lt) | replace r2 := r2.below hbn
              try first | replace r3 := r3.of_eq (hbn.block _ r3.lt) | replace r3 := r3.below hbn
              try first | replace q5 := q5.of_eq (hbn.block _ q5.lt) | replace q5 := q5.below hbn
              try first | replace g6 := g6.of_eq (hbn.block _ g6.lt) | replace g6 := g6.below hbn
              refine hK _ _ ⟨fun _ => ⟨_, ov_of hX⟩, ?_⟩
              clear hK K
              try simp only [List.getElem_toArray, List.getElem_cons_zero, List.getElem_cons_succ]
              simp only [Act.put, putS]
              refine anyX_seq (by kernel_rfl) (by kernel_rfl) ?_
              simp only [List.drop_succ_cons, List.drop_zero]
              go_wp2_with (first | (refine wpList_storeB (t := 50) rfl _ _ rfl _ rfl _ rfl g6 (by kernel_rfl) rfl (by simp [Value.oneCell']) ?_; have g6o := g6; clear g6; intro wn ht hcn hzn; replace rs1 := rs1.chg g6o (by simp) hcn; have hsz := B.size; replace hzn := Nat.le_of_eq hzn.symm; replace B := Chg.below B hcn (by omega) B.size; (try replace r2 := r2.of_eq (hcn.block _ r2.lt (by omega))); (try replace r3 := r3.of_eq (hcn.block _ r3.lt (by omega))); (try replace q5 := q5.of_eq (hcn.block _ q5.lt (by omega))); have g6 := ht; clear ht; simp only [Act.put, putS]) | fail)
              refine NoPan.normal ?_
              go_wp2_with fail
              go_meet
              exact ⟨b_g6, a1, c1, _, rfl, by rw [E.out]; exact g6, by rw [E.out]; exact rs1, B, r2, r3⟩
          · skip
            try simp only [List.getElem_toArray, List.getElem_cons_zero, List.getElem_cons_succ]
            refine owp_allocBk (t := 50) _ (run_alloc_G _ _ rfl) ?_
            intro b_g6 wn hle hge ht hbn hzn
            have hsz := B.size
            have hsx := hX.size
            replace B := B.trans (hbn.mono (by omega))
            replace hX := hX.trans (hbn.mono (by omega))
            try first | (have hlt := r2.lt; replace r2 := r2.of_eq (hbn.block _ (by omega))) | replace r2 := r2.below (hbn.mono hle)
            try first | (have hlt := r3.lt; replace r3 := r3.of_eq (hbn.block _ (by omega))) | replace r3 := r3.below (hbn.mono hle)
            try first | (have hlt := q5.lt; replace q5 := q5.of_eq (hbn.block _ (by omega))) | replace q5 := q5.below (hbn.mono hle)
            try first | (have hlt := g6.lt; replace g6 := g6.of_eq (hbn.block _ (by omega))) | replace g6 := g6.below (hbn.mono hle)
            try first | (have hlt := rs.lt; replace rs := rs.of_eq (hbn.block _ (by omega))) | replace rs := rs.below (hbn.mono hle)
            try first | (have hlt := rs1.lt; replace rs1 := rs1.of_eq (hbn.block _ (by omega))) | replace rs1 := rs1.below (hbn.mono hle)
            have g6 := ht
            clear ht
            refine hK _ _ ⟨fun _ => ⟨_, ov_of hX⟩, ?_⟩
            clear hK K
            try simp only [List.getElem_toArray, List.getElem_cons_zero, List.getElem_cons_succ]
            simp only [Act.put, putS]
            refine anyX_next 8 rfl (by kernel_rfl) rfl (fun K hK => ?_)
            try simp only [List.getElem_toArray, List.getElem_cons_zero, List.getElem_cons_succ]
            go_simp
            go_at_call 61
            refine (R_pickB _ L (n + 1) _ (by omega) _ (HL.out.below B) hn).mono ?_
            rintro e wn ⟨rfl, hbn⟩
            have hsz := B.size
            have hzn := hbn.size
            have hsx := hX.size
            replace B := B.trans (hbn.mono B.size)
            replace hX := hX.trans (hbn.mono hX.size)
            try first | replace r2 := r2.of_eq (hbn.block _ r2.lt) | replace r2 := r2.below hbn
            try first | replace r3 := r3.of_eq (hbn.block _ r3.lt) | replace r3 := r3.below hbn
            try first | replace q5 := q5.of_eq (hbn.block _ q5.lt) | replace q5 := q5.below hbn
            try first | replace g6 := g6.of_eq (hbn.block _ g6.lt) | replace g6 := g6.below hbn
            try first | replace rs := rs.of_eq (hbn.block _ rs.lt) | replace rs := rs.below hbn
            refine hK _ _ ⟨fun _ => ⟨_, ov_of hX⟩, ?_⟩
            clear hK K
            try simp only [List.getElem_toArray, List.getElem_cons_zero, List.getElem_cons_succ]
            simp only [Act.put, putS]
            refine anyX_take 9 rfl (by kernel_rfl) ⟨_, ov_of hX⟩ ?_
            intro K hK
            try simp only [List.getElem_toArray, List.getElem_cons_zero, List.getElem_cons_succ]
            (first | (refine quiet_loadAny (t := 30) rfl _ _ _ rfl (fun w hw => run_load_B (ov_B r3B w hw) Try.isAgg30 (by kernel_rfl)) (by rfl) ?_; simp only [Act.put, putS]; go_big_quiet_on) | (refine quiet_loadPx rfl _ rfl (ov_px q5B) ?_; simp only [Act.put, putS]; go_big_quiet_on) | (go_big_quiet_op; go_big_quiet_on))
            simp only [Act.put, putS]
            refine anyX_next 11 rfl (by kernel_rfl) rfl (fun K hK => ?_)
            try simp only [List.getElem_toArray, List.getElem_cons_zero, List.getElem_cons_succ]
            go_simp
            go_at_call 27
            refine (R_SetR _ (madeK L k) x y _ _ rs (madeK_tok L k) (by unfold maxLen; omega) wx wy (madeP_ok _)).mono ?_
            rintro e wn ⟨v1, rfl, rs1, hbn⟩
            obtain ⟨a1, c1, rfl, hc1⟩ := rs1.len
            have hsz := B.size
            have hzn := hbn.size
            have hsx := hX.size
            replace B := B.trans (hbn.mono B.size)
            replace hX := hX.trans (hbn.mono hX.size)
            try first | replace r2 := r2.of_eq (hbn.block _ r2.lt) | replace r2 := r2.below hbn
            try first | replace r3 := r3.of_eq (hbn.block _ r3.lt) | replace r3 := r3.below hbn
            try first | replace q5 := q5.of_eq (hbn.block _ q5.lt) | replace q5 := q5.below hbn
            try first | replace g6 := g6.of_eq (hbn.block _ g6.lt) | replace g6 := g6.below hbn
            refine hK _ _ ⟨fun _ => ⟨_, ov_of hX⟩, ?_⟩
            clear hK K
            try simp only [List.getElem_toArray, List.getElem_cons_zero, List.getElem_cons_succ]
            simp only [Act.put, putS]
            refine anyX_seq (by kernel_rfl) (by kernel_rfl) ?_
            simp only [List.drop_succ_cons, List.drop_zero]
            go_wp2_with (first | (refine wpList_storeB (t := 50) rfl _ _ rfl _ rfl _ rfl g6 (by kernel_rfl) rfl (by simp [Value.oneCell']) ?_; have g6o := g6; clear g6; intro wn ht hcn hzn; replace rs1 := rs1.chg g6o (by simp) hcn; have hsz := B.size; replace hzn := Nat.le_of_eq hzn.symm; replace B := Chg.below B hcn (by omega) B.size; (try replace r2 := r2.of_eq (hcn.block _ r2.lt (by omega))); (try replace r3 := r3.of_eq (hcn.block _ r3.lt (by omega))); (try replace q5 := q5.of_eq (hcn.block _ q5.lt (by omega))); have g6 := ht; clear ht; simp only [Act.put, putS]) | fail)
            refine NoPan.normal ?_
            go_wp2_with fail
            go_meet
            exact ⟨b_g6, a1, c1, _, rfl, by rw [E.out]; exact g6, by rw [E.out]; exact rs1, B, r2, r3⟩
        · skip
          try simp only [List.getElem_toArray, List.getElem_cons_zero, List.getElem_cons_succ]
          refine owp_allocBk (t := 50) _ (run_alloc_G _ _ rfl) ?_
          intro b_g6 wn hle hge ht hbn hzn
          have hsz := B.size
          have hsx := hX.size
          replace B := B.trans (hbn.mono (by omega))
          replace hX := hX.trans (hbn.mono (by omega))
          try first | (have hlt := r2.lt; replace r2 := r2.of_eq (hbn.block _ (by omega))) | replace r2 := r2.below (hbn.mono hle)
          try first | (have hlt := r3.lt; replace r3 := r3.of_eq (hbn.block _ (by omega))) | replace r3 := r3.below (hbn.mono hle)
          try first | (have hlt := q5.lt; replace q5 := q5.of_eq (hbn.block _ (by omega))) | replace q5 := q5.below (hbn.mono hle)
          try first | (have hlt := g6.lt; replace g6 := g6.of_eq (hbn.block _ (by omega))) | replace g6 := g6.below (hbn.mono hle)
          try first | (have hlt := rs.lt; replace rs := rs.of_eq (hbn.block _ (by omega))) | replace rs := rs.below (hbn.mono hle)
          try first | (have hlt := rs1.lt; replace rs1 := rs1.of_eq (hbn.block _ (by omega))) | replace rs1 := rs1.below (hbn.mono hle)
          have g6 := ht
          clear ht
          refine hK _ _ ⟨fun _ => ⟨_, ov_of hX⟩, ?_⟩
          clear hK K
          try simp only [List.getElem_toArray, List.getElem_cons_zero, List.getElem_cons_succ]
          simp only [Act.put, putS]
          refine anyX_next 3 rfl (by kernel_rfl) rfl (fun K hK => ?_)
          try simp only [List.getElem_toArray, List.getElem_cons_zero, List.getElem_cons_succ]
          go_simp
          go_at_call 61
          refine (R_pickB _ L n _ rfl _ (HL.out.below B) hn).mono ?_
          rintro e wn ⟨rfl, hbn⟩
          have hsz := B.size
          have hzn := hbn.size
          have hsx := hX.size
          replace B := B.trans (hbn.mono B.size)
          replace hX := hX.trans (hbn.mono hX.size)
          try first | replace r2 := r2.of_eq (hbn.block _ r2.lt) | replace r2 := r2.below hbn
          try first | replace r3 := r3.of_eq (hbn.block _ r3.lt) | replace r3 := r3.below hbn
          try first | replace q5 := q5.of_eq (hbn.block _ q5.lt) | replace q5 := q5.below hbn
          try first | replace g6 := g6.of_eq (hbn.block _ g6.lt) | replace g6 := g6.below hbn
          try first | replace rs := rs.of_eq (hbn.block _ rs.lt) | replace rs := rs.below hbn
          refine hK _ _ ⟨fun _ => ⟨_, ov_of hX⟩, ?_⟩
          clear hK K
          try simp only [List.getElem_toArray, List.getElem_cons_zero, List.getElem_cons_succ]
          simp only [Act.put, putS]
          refine anyX_take 4 rfl (by kernel_rfl) ⟨_, ov_of hX⟩ ?_
          intro K hK
          try simp only [List.getElem_toArray, List.getElem_cons_zero, List.getElem_cons_succ]
          (first | (refine quiet_loadAny (t := 30) rfl _ _ _ rfl (fun w hw => run_load_B (ov_B r3B w hw) Try.isAgg30 (by kernel_rfl)) (by rfl) ?_; simp only [Act.put, putS]; go_big_quiet_on) | (refine quiet_loadPx rfl _ rfl (ov_px q5B) ?_; simp only [Act.put, putS]; go_big_quiet_on) | (go_big_quiet_op; go_big_quiet_on))
          simp only [Act.put, putS]
          refine anyX_next 8 rfl (by kernel_rfl) rfl (fun K hK => ?_)
          try simp only [List.getElem_toArray, List.getElem_cons_zero, List.getElem_cons_succ]
          go_simp
          go_at_call 61
          refine (R_pickB _ L (n + 1) _ (by omega) _ (HL.out.below B) hn).mono ?_
          rintro e wn ⟨rfl, hbn⟩
          have hsz := B.size
          have hzn := hbn.size
          have hsx := hX.size
          replace B := B.trans (hbn.mono B.size)
          replace hX := hX.trans (hbn.mono hX.size)
          try first | replace r2 := r2.of_eq (hbn.block _ r2.lt) | replace r2 := r2.below hbn
          try first | replace r3 := r3.of_eq (hbn.block _ r3.lt) | replace r3 := r3.below hbn
          try first | replace q5 := q5.of_eq (hbn.block _ q5.lt) | replace q5 := q5.below hbn
          try first | replace g6 := g6.of_eq (hbn.block _ g6.lt) | replace g6 := g6.below hbn
          try first | replace rs := rs.of_eq (hbn.block _ rs.lt) | replace rs := rs.below hbn
          refine hK _ _ ⟨fun _ => ⟨_, ov_of hX⟩, ?_⟩
          clear hK K
          try simp only [List.getElem_toArray, List.getElem_cons_zero, List.getElem_cons_succ]
          simp only [Act.put, putS]
          refine anyX_take 9 rfl (by kernel_rfl) ⟨_, ov_of hX⟩ ?_
          intro K hK
          try simp only [List.getElem_toArray, List.getElem_cons_zero, List.getElem_cons_succ]
          (first | (refine quiet_loadAny (t := 30) rfl _ _ _ rfl (fun w hw => run_load_B (ov_B r3B w hw) Try.isAgg30 (by kernel_rfl)) (by rfl) ?_; simp only [Act.put, putS]; go_big_quiet_on) | (refine quiet_loadPx rfl _ rfl (ov_px q5B) ?_; simp only [Act.put, putS]; go_big_quiet_on) | (go_big_quiet_op; go_big_quiet_on))
          simp only [Act.put, putS]
          refine anyX_next 11 rfl (by kernel_rfl) rfl (fun K hK => ?_)
          try simp only [List.getElem_toArray, List.getElem_cons_zero, List.getElem_cons_succ]
          go_simp
          go_at_call 27
          refine (R_SetR _ (madeK L k) x y _ _ rs (madeK_tok L k) (by unfold maxLen; omega) wx wy (madeP_ok _)).mono ?_
          rintro e wn ⟨v1, rfl, rs1, hbn⟩
          obtain ⟨a1, c1, rfl, hc1⟩ := rs1.len
          have hsz := B.size
          have hzn := hbn.size
          have hsx := hX.size
          replace B := B.trans (hbn.mono B.size)
          replace hX := hX.trans (hbn.mono hX.size)
          try first | replace r2 := r2.of_eq (hbn.block _ r2.lt) | replace r2 := r2.below hbn
          try first | replace r3 := r3.of_eq (hbn.block _ r3.lt) | replace r3 := r3.below hbn
          try first | replace q5 := q5.of_eq (hbn.block _ q5.lt) | replace q5 := q5.below hbn
          try first | replace g6 := g6.of_eq (hbn.block _ g6.lt) | replace g6 := g6.below hbn
          refine hK _ _ ⟨fun _ => ⟨_, ov_of hX⟩, ?_⟩
          clear hK K
          try simp only [List.getElem_toArray, List.getElem_cons_zero, List.getElem_cons_succ]
          simp only [Act.put, putS]
          refine anyX_seq (by kernel_rfl) (by kernel_rfl) ?_
          simp only [List.drop_succ_cons, List.drop_zero]
          go_wp2_with (first | (refine wpList_storeB (t := 50) rfl _ _ rfl _ rfl _ rfl g6 (by kernel_rfl) rfl (by simp [Value.oneCell']) ?_; have g6o := g6; clear g6; intro wn ht hcn hzn; replace rs1 := rs1.chg g6o (by simp) hcn; have hsz := B.size; replace hzn := Nat.le_of_eq hzn.symm; replace B := Chg.below B hcn (by omega) B.size; (try replace r2 := r2.of_eq (hcn.block _ r2.lt (by omega))); (try replace r3 := r3.of_eq (hcn.block _ r3.lt (by omega))); (try replace q5 := q5.of_eq (hcn.block _ q5.lt (by omega))); have g6 := ht; clear ht; simp only [Act.put, putS]) | fail)
          refine NoPan.normal ?_
          go_wp2_with fail
          go_meet
          exact ⟨b_g6, a1, c1, _, rfl, by rw [E.out]; exact g6, by rw [E.out]; exact rs1, B, r2, r3⟩
      case rest =>
        obtain ⟨b_g6, a1, c1, e1, rfl, g6, rs1, B, r2, r3⟩ := hcut
        go_wp2_with (first | (refine wpList_storeB (t := 30) rfl _ _ rfl _ rfl _ rfl r3 (by kernel_rfl) rfl (by simp [Value.oneCell']) ?_; have r3o := r3; clear r3; intro wn ht hcn hzn; replace rs1 := rs1.chg r3o (by simp) hcn; have hsz := B.size; replace hzn := Nat.le_of_eq hzn.symm; replace B := Chg.below B hcn (by omega) B.size; (try replace r2 := r2.of_eq (hcn.block _ r2.lt (by omega))); (try replace q5 := q5.of_eq (hcn.block _ q5.lt (by omega))); (try replace g6 := g6.of_eq (hcn.block _ g6.lt (by omega))); have r3 := ht; clear ht; simp only [Act.put, putS]) | (refine wpList_loadAny (t := 30) rfl _ rfl _ _ _ rfl (run_load_ras (g6.cell 0 rfl)) (by rfl) ?_; simp only [Act.put, putS]) | fail)
        go_roundw
        case rel => exact ⟨k + 1, n + 3, a1, c1, by have := HN.out; omega, by omega, by go_num, B, r2, r3, rs1⟩
        case measure => simp [intOf]; omega
    · have E := Lib.hid (show madeK L k = madeL L from by
        unfold madeL
        by_cases hk40 : k = 40
        · rw [hk40]
        · have := madeK_stop L k (by omega) (40 - k)
          rw [show k + (40 - k) = 40 by omega] at this
          exact this.symm)
      have hnb : n ≤ 120 := by omega
      clear hn3
      by_cases hix : n + 2 < L.length
      · have d1 : decide ((n : Int) + 2 < (L.length : Int)) = true := decide_eq_true (by omega)
        have d2 : decide ((n : Int) < 120) = false := decide_eq_false (by omega)
        clear hq
        go_wp2_with (first | (refine wpList_storeB (t := 30) rfl _ _ rfl _ rfl _ rfl r2 (by kernel_rfl) rfl (by simp [Value.oneCell']) ?_; have r2o := r2; clear r2; intro wn ht hcn hzn; replace rs := rs.chg r2o (by simp) hcn; have hsz := B.size; replace hzn := Nat.le_of_eq hzn.symm; replace B := Chg.below B hcn (by omega) B.size; (try replace r3 := r3.of_eq (hcn.block _ r3.lt (by omega))); (try replace q5 := q5.of_eq (hcn.block _ q5.lt (by omega))); (try replace g6 := g6.of_eq (hcn.block _ g6.lt (by omega))); have r2 := ht; clear ht; simp only [Act.put, putS]) | (refine wpList_loadAny (t := 30) rfl _ rfl _ _ _ rfl (run_load_B r3 Try.isAgg30 (by kernel_rfl)) (by rfl) ?_; simp only [Act.put, putS]) | fail)
        refine bodyPost_ret (results_B (t := 30) rfl _ _ (b_r2) rfl r2 Try.isAgg30 (by kernel_rfl)) rfl ?_
        exact ⟨_, rfl, by rw [← E.out]; exact rs, B⟩
      · have d1 : decide ((n : Int) + 2 < (L.length : Int)) = false := decide_eq_false (by omega)
        clear hq
        go_wp2_with (first | (refine wpList_storeB (t := 30) rfl _ _ rfl _ rfl _ rfl r2 (by kernel_rfl) rfl (by simp [Value.oneCell']) ?_; have r2o := r2; clear r2; intro wn ht hcn hzn; replace rs := rs.chg r2o (by simp) hcn; have hsz := B.size; replace hzn := Nat.le_of_eq hzn.symm; replace B := Chg.below B hcn (by omega) B.size; (try replace r3 := r3.of_eq (hcn.block _ r3.lt (by omega))); (try replace q5 := q5.of_eq (hcn.block _ q5.lt (by omega))); (try replace g6 := g6.of_eq (hcn.block _ g6.lt (by omega))); have r2 := ht; clear ht; simp only [Act.put, putS]) | (refine wpList_loadAny (t := 30) rfl _ rfl _ _ _ rfl (run_load_B r3 Try.isAgg30 (by kernel_rfl)) (by rfl) ?_; simp only [Act.put, putS]) | fail)
        refine bodyPost_ret (results_B (t := 30) rfl _ _ (b_r2) rfl r2 Try.isAgg30 (by kernel_rfl)) rfl ?_
        exact ⟨_, rfl, by rw [← E.out]; exact rs, B⟩
end Go.Proofs.Ytppccnjckiedlaa
/- Stores into a row of tiles at positions. -/
namespace Go.Proofs.Ytppccnjckiedlaa
open Go.RowKit Go.Shelf Pl
set_option linter.unusedVariables false
set_option linter.unusedSimpArgs false
set_option maxRecDepth 20000

theorem aT_set (ls : List TA) (i k : Nat) (e : TA) (hi : i < ls.length) : aT (ls.set i e) k = if k = i then e else aT ls k := by
  unfold aT
  rw [List.getD_eq_getElem?_getD, List.getD_eq_getElem?_getD, List.getElem?_set]
  by_cases h : i = k
  · subst h; simp [hi]
  · rw [if_neg h, if_neg (Ne.symm h)]
theorem sz_setCells (b : Nat) : ∀ (vs : List Value) (o : Nat) (w : World), (w.setCells b o vs).heap.size = w.heap.size
  | [], _, _ => rfl
  | v :: r, o, w => by
    show ((w.setCell ⟨b, o, none⟩ v).setCells b (o + 1) r).heap.size = _
    rw [sz_setCells b r, World.size_setCell]
theorem RCells.put {g o i s : Nat} {ls : List TA} {w : World} {vs : List Value} (h : RCells g o ls w) (e' : TA) (hi : i < ls.length) (hs : s + vs.length ≤ 258)
    (he : ∀ j, j < 258 → (taC e')[j]? = if s ≤ j ∧ j < s + vs.length then vs[j - s]? else (taC (aT ls i))[j]?) : RCells g o (ls.set i e') (w.setCells g (o + i * 258 + s) vs) := by
  refine ⟨by rw [sz_setCells]; exact h.1, fun k hk j hj => ?_⟩
  rw [List.length_set] at hk
  rw [aT_set ls i k e' hi]
  have hsome : ∀ j, j < vs.length → (w.cell? ⟨g, o + i * 258 + s + j, none⟩).isSome = true := fun j hj => by
    have := h.2 i hi (s + j) (by omega)
    rw [show o + i * 258 + s + j = o + (i * 258 + (s + j)) by omega, this, Array.getElem?_eq_getElem (by rw [size_taC]; omega)]
    rfl
  by_cases hki : k = i
  · subst hki
    rw [if_pos rfl, he j hj]
    by_cases hj2 : s ≤ j ∧ j < s + vs.length
    · rw [if_pos hj2, show o + (k * 258 + j) = o + k * 258 + s + (j - s) by omega, World.cell?_setCells_in g vs _ w hsome (j - s) (by omega), List.getElem?_eq_getElem]
    · rw [if_neg hj2, World.cell?_setCells_out g vs _ w _ (fun _ _ => by show o + (k * 258 + j) < o + k * 258 + s ∨ o + k * 258 + s + vs.length ≤ o + (k * 258 + j); omega)]
      exact h.2 k hk j hj
  · rw [if_neg hki, World.cell?_setCells_out g vs _ w _ (fun _ _ => by
      show o + (k * 258 + j) < o + i * 258 + s ∨ o + i * 258 + s + vs.length ≤ o + (k * 258 + j)
      rcases Nat.lt_or_gt_of_ne hki with hh | hh
      · left; have : (k + 1) * 258 ≤ i * 258 := Nat.mul_le_mul_right _ hh; omega
      · right; have : (i + 1) * 258 ≤ k * 258 := Nat.mul_le_mul_right _ hh; omega)]
    exact h.2 k hk j hj
/-- An owned row of tiles: its cells may be written. -/
theorem OwnT.row {B : Nat} {v : Value} {ls : List TA} {w : World} (h : OwnT B v ls w) (hl : 0 < ls.length) : ∃ g c, v = .slice (some ⟨g, 0, none⟩) ls.length c ∧ B ≤ g ∧ RCells g 0 ls w ∧ ∀ j, w.frozen? ⟨g, j, none⟩ = false := by
  have hr := h.rs
  obtain ⟨h1, h2⟩ := h
  rcases h2 with ⟨rfl, h0⟩ | ⟨g, cap, cur, rfl, hb, hg, hn, hm, hs, ht⟩
  · exact absurd hl (by omega)
  · obtain ⟨g', o', e, rc⟩ := hr.at hl
    injection e with e
    injection e with e1 e2
    subst e1; subst e2
    exact ⟨g, cap, rfl, hb, rc, fun j => AtB.frozen (t := 79) hg j⟩
theorem RCells.there {g o : Nat} {ls : List TA} {w : World} (h : RCells g o ls w) (hf : ∀ j, w.frozen? ⟨g, j, none⟩ = false) {i s n : Nat} (hi : i < ls.length) (hs : s + n ≤ 258) : w.there g (o + i * 258 + s) n := fun j hj => by
  refine ⟨?_, hf _⟩
  have := h.2 i hi (s + j) (by omega)
  rw [show o + i * 258 + s + j = o + (i * 258 + (s + j)) by omega, this, Array.getElem?_eq_getElem (by rw [size_taC]; omega)]
  rfl
theorem setCells_chg (g o : Nat) (vs : List Value) (w : World) : Chg g w (w.setCells g o vs) := by
  induction vs generalizing o w with
  | nil => exact Chg.refl g w
  | cons v r ih =>
    show Chg g w ((w.setCell ⟨g, o, none⟩ v).setCells g (o + 1) r)
    exact ((Chg.refl g w).setCell _).trans (ih (o + 1) _)
section
variable {ops : Array Oper} {rest : List Oper} {o : Oper} {a : Act} {w : World} {Q : Exit → Act → World → Prop} {ls : List TA} {g : Nat}
/-- A part of an element of an owned row is stored. -/
theorem wpList_storeEl {t : TypeId} (hg : o.guard = none) (x y : Operand) (ho : o.op = .store t x y) (off : Nat) (hx : a.eval x = .pointer (some ⟨g, off, none⟩)) (cells : Array Value) (hy : a.eval y = .agg cells)
    (rc : RCells g 0 ls w) (hf : ∀ j, w.frozen? ⟨g, j, none⟩ = false) (i s : Nat) (hi : i < ls.length) (hoff : off = 0 + i * 258 + s) (hs : s + cells.size ≤ 258) (hinfo : (Try.prog.info? t).map (·.size) = some cells.size) (h1 : cells.all (·.oneCell') = true)
    (e' : TA) (he : ∀ j, j < 258 → (taC e')[j]? = if s ≤ j ∧ j < s + cells.toList.length then cells.toList[j - s]? else (taC (aT ls i))[j]?)
    (h : ∀ w', RCells g 0 (ls.set i e') w' → Chg g w w' → w'.heap.size = w.heap.size → wpList Try.prog ops Q rest (a.put o.dst undef) w') : wpList Try.prog ops Q (o :: rest) a w := by
  subst hoff
  refine wpList_store_mid hg t x y ho g _ cells hx hy (rc.there hf hi hs) hinfo h1 ?_
  exact h _ (rc.put e' hi (by rw [Array.length_toList]; exact hs) he) (setCells_chg _ _ _ _) (sz_setCells _ _ _ _)
theorem taC_at3 (e : TA) (j : Nat) : (taC e)[j]? = if j = 0 then some (.int .i64 e.x) else if j = 1 then some (.int .i64 e.y) else (tileC e.t)[j - 2]? := by
  match j with
  | 0 => exact taC_x e
  | 1 => exact taC_y e
  | j + 2 =>
    rw [if_neg (by omega), if_neg (by omega), Nat.add_comm j 2, Nat.add_sub_cancel_left]
    exact taC_t e j
theorem wpList_storePos (hg : o.guard = none) (x y : Operand) (ho : o.op = .store 24 x y) (off : Nat) (hx : a.eval x = .pointer (some ⟨g, off, none⟩)) (m n : Int) (hy : a.eval y = .agg #[.int .i64 m, .int .i64 n])
    (rc : RCells g 0 ls w) (hf : ∀ j, w.frozen? ⟨g, j, none⟩ = false) (i : Nat) (hi : i < ls.length) (hoff : off = i * 258)
    (h : ∀ w', RCells g 0 (ls.set i ⟨m, n, (aT ls i).t⟩) w' → Chg g w w' → w'.heap.size = w.heap.size → wpList Try.prog ops Q rest (a.put o.dst undef) w') : wpList Try.prog ops Q (o :: rest) a w := by
  refine wpList_storeEl hg x y ho off hx _ hy rc hf i 0 hi (by omega) (by simp) (by kernel_rfl) (by simp [Value.oneCell']) ⟨m, n, (aT ls i).t⟩ (fun j hj => ?_) h
  match j with
  | 0 => rw [taC_at3]; rfl
  | 1 => rw [taC_at3]; rfl
  | j + 2 => rw [if_neg (by simp), taC_at3, taC_at3, if_neg (by omega), if_neg (by omega), if_neg (by omega), if_neg (by omega)]
theorem wpList_storeTl (hg : o.guard = none) (x y : Operand) (ho : o.op = .store 40 x y) (off : Nat) (hx : a.eval x = .pointer (some ⟨g, off, none⟩)) (f : Nat → Px) (hy : a.eval y = Tile.v f)
    (rc : RCells g 0 ls w) (hf : ∀ j, w.frozen? ⟨g, j, none⟩ = false) (i : Nat) (hi : i < ls.length) (hoff : off = i * 258 + 2)
    (h : ∀ w', RCells g 0 (ls.set i ⟨(aT ls i).x, (aT ls i).y, f⟩) w' → Chg g w w' → w'.heap.size = w.heap.size → wpList Try.prog ops Q rest (a.put o.dst undef) w') : wpList Try.prog ops Q (o :: rest) a w := by
  refine wpList_storeEl hg x y ho off hx (tileC f) hy rc hf i 2 hi (by omega) (by rw [size_tileC]; omega) (tile_size f) (tile_oneCell f) ⟨(aT ls i).x, (aT ls i).y, f⟩ (fun j hj => ?_) h
  match j with
  | 0 => rw [if_neg (by omega), taC_at3, taC_at3]; rfl
  | 1 => rw [if_neg (by omega), taC_at3, taC_at3]; rfl
  | j + 2 => rw [if_pos (by rw [Array.length_toList, size_tileC]; omega), taC_at3, if_neg (by omega), if_neg (by omega), Array.getElem?_toList]
end
end Go.Proofs.Ytppccnjckiedlaa
/- Contract of `of` of the law package of rasters. -/
namespace Go.Proofs.Ytppccnjckiedlaa
open Go.RowKit Go.Shelf Pl
set_option linter.unusedVariables false
set_option linter.unusedSimpArgs false
set_option maxRecDepth 20000

/-- What Raw describes (its two slices aside). -/
structure RawQ where
  at_ : Int
  px : Int
  py : Int
  how : Int
def ninT (t : Nat → Px) : Nat → Px := upd t 5 ⟨9, (t 5).g, (t 5).b, (t 5).a⟩
def turnA (q : RawQ) (T : List Int) (e : TA) : TA :=
  if q.how % 8 = 1 then ⟨q.px, q.py, e.t⟩ else if q.how % 8 = 2 then ⟨e.x, e.y, madeT T⟩ else if q.how % 8 = 3 then ⟨e.x, e.y, ninT e.t⟩ else e
def ofI (q : RawQ) (n : Nat) : Nat := (q.at_ % 65536).toNat % n
def ofR (q : RawQ) (T : List Int) (r : List TA) : List TA :=
  if r.length = 0 then r else if q.how % 8 = 4 then r ++ [aT r (ofI q r.length)] else r.set (ofI q r.length) (turnA q T (aT r (ofI q r.length)))
def ofL (q : RawQ) (L T : List Int) : List TA := ofR q T (madeL L)
theorem ninT_tok {t : Nat → Px} (h : Tok t) : Tok (ninT t) := fun i hi => by
  unfold ninT upd
  split
  · have := h 5 (by omega)
    obtain ⟨_, h2, h3, h4⟩ := this
    exact ⟨⟨by simp, by simp⟩, h2, h3, h4⟩
  · exact h i hi
theorem turnA_tok (q : RawQ) (T : List Int) {e : TA} (h : Tok e.t) : Tok (turnA q T e).t := by
  unfold turnA
  split
  · exact h
  · split
    · exact madeT_tok T
    · split
      · exact ninT_tok h
      · exact h
theorem ofI_lt (q : RawQ) {n : Nat} (h : 0 < n) : ofI q n < n := Nat.mod_lt _ h
theorem ofR_tok (q : RawQ) (T : List Int) {r : List TA} (h : TokL r) : TokL (ofR q T r) := by
  unfold ofR
  split
  · exact h
  · rename_i h0
    have hi := ofI_lt q (n := r.length) (by omega)
    split
    · exact h.append fun e he => by rw [List.mem_singleton.1 he]; exact h.at hi
    · intro e he
      rcases List.mem_or_eq_of_mem_set he with he | rfl
      · exact h e he
      · exact turnA_tok q T (h.at hi)
theorem madeL_tok (L : List Int) : TokL (madeL L) := madeK_tok L 40
theorem madeL_len (L : List Int) : (madeL L).length ≤ 1024 := madeK_len L 40
theorem ofL_tok (q : RawQ) (L T : List Int) : TokL (ofL q L T) := ofR_tok q T (madeL_tok L)
theorem ofL_len (q : RawQ) (L T : List Int) : (ofL q L T).length ≤ 1025 := by
  have := madeL_len L
  unfold ofL ofR
  split
  · omega
  · split
    · rw [List.length_append]; simp; omega
    · rw [List.length_set]; omega
theorem run_load_sli {w : World} {b j : Nat} {v : Value} (h : w.cell? ⟨b, j, none⟩ = some v) : (Instr.loadAt 22 (.pointer (some ⟨b, j, none⟩))).run Try.prog w = .ok v w := by
  simp [go_sem, h]
theorem run_load_ps {w : World} {b j : Nat} {x y : Int} (h : w.cell? ⟨b, j, none⟩ = some (.int .i64 x)) (h' : w.cell? ⟨b, j + 1, none⟩ = some (.int .i64 y)) : (Instr.loadAt 24 (.pointer (some ⟨b, j, none⟩))).run Try.prog w = .ok (.agg #[.int .i64 x, .int .i64 y]) w := by
  simp [go_sem, h, h']
theorem R_Made8O (v : Value) (L : List Int) (w : World) (h : RSE inE v L w) (hn : L.length ≤ 17592186044416) : Calls Try.prog 18 #[v] w fun e w' => ∃ a c, e = .returned (.agg #[.slice a (madeL L).length c]) ∧ RS (.slice a (madeL L).length c) (madeL L) w' ∧ Below w.heap.size w w' :=
  (R_Made8 v L w h hn).mono fun e w' ⟨v', he, hr, hb⟩ => by
    obtain ⟨a, c, rfl, _⟩ := hr.len
    exact ⟨a, c, he, hr, hb⟩
theorem nin_cells (e : TA) (j : Nat) (hj : j < 258) : (taC ⟨e.x, e.y, ninT e.t⟩)[j]? = if 22 ≤ j ∧ j < 22 + [Value.int .u8 9].length then [Value.int .u8 9][j - 22]? else (taC e)[j]? := by
  by_cases h : j = 22
  · subst h
    rw [if_pos (by simp), taC_at3, if_neg (by omega), if_neg (by omega), get_tileC, if_pos (by omega)]
    rfl
  · rw [if_neg (by simp; omega), taC_at3, taC_at3]
    simp only
    split
    · rfl
    · split
      · rfl
      · rw [get_tileC, get_tileC, if_pos (by omega), if_pos (by omega)]
        by_cases h5 : (j - 2) / 4 = 5
        · have : (j - 2) % 4 = 1 ∨ (j - 2) % 4 = 2 ∨ (j - 2) % 4 = 3 := by omega
          rw [h5]
          rcases this with e' | e' | e' <;> rw [e'] <;> rfl
        · show some (pxC (ninT e.t ((j - 2) / 4)) _) = _
          unfold ninT upd
          rw [if_neg h5]
theorem wpList_storeNin {ops : Array Oper} {rest : List Oper} {o : Oper} {a : Act} {w : World} {Q : Exit → Act → World → Prop} {ls : List TA} {g : Nat} (hg : o.guard = none) (x y : Operand) (ho : o.op = .store 5 x y) (off : Nat) (hx : a.eval x = .pointer (some ⟨g, off, none⟩)) (hy : a.eval y = .int .u8 9)
    (rc : RCells g 0 ls w) (hf : ∀ j, w.frozen? ⟨g, j, none⟩ = false) (i : Nat) (hi : i < ls.length) (hoff : off = 0 + i * 258 + 22)
    (h : ∀ w', RCells g 0 (ls.set i ⟨(aT ls i).x, (aT ls i).y, ninT (aT ls i).t⟩) w' → Chg g w w' → w'.heap.size = w.heap.size → wpList Try.prog ops Q rest (a.put o.dst undef) w') : wpList Try.prog ops Q (o :: rest) a w := by
  subst hoff
  refine wpList_storeAny hg x y ho (w.setCells g (0 + i * 258 + 22) [.int .u8 9]) ?_ (h _ (rc.put _ hi (by simp) (nin_cells (aT ls i))) (setCells_chg _ _ _ _) (sz_setCells _ _ _ _))
  rw [hx, hy]
  have hc := (rc.there hf hi (s := 22) (n := 1) (by omega)) 0 (by omega)
  rw [Nat.add_zero] at hc
  obtain ⟨u, hu⟩ := Option.isSome_iff_exists.1 hc.1
  have hff := hc.2
  show _ = Result.ok () (w.setCell ⟨g, 0 + i * 258 + 22, none⟩ (.int .u8 9))
  simp only [Nat.zero_add] at hu hff ⊢
  simp [go_sem, hu, hff]
end Go.Proofs.Ytppccnjckiedlaa
/- Contract of `of` of the law package of rasters: the walk. -/
namespace Go.Proofs.Ytppccnjckiedlaa
open Go.RowKit Go.Shelf Pl
set_option linter.unusedVariables false
set_option linter.unusedSimpArgs false
set_option maxRecDepth 20000

theorem OwnT.frz {B g c : Nat} {ls : List TA} {w : World} (h : OwnT B (.slice (some ⟨g, 0, none⟩) ls.length c) ls w) (hl : 0 < ls.length) : ∀ j, w.frozen? ⟨g, j, none⟩ = false := by
  obtain ⟨g', c', e, _, _, hf⟩ := h.row hl
  injection e with e
  injection e with e
  injection e with e1
  subst e1
  exact hf
set_option maxHeartbeats 2000000 in
theorem L_of0 (q : RawQ) (vL vT : Value) (T : List Int) (r : List TA) (w : World) (hr : r.length ≤ 1024) (hT : RSE inE vT T w) (hTn : T.length ≤ 17592186044416)
    (hMD : ∀ w', Below w.heap.size w w' → Calls Try.prog 18 #[vL] w' fun e w'' => ∃ a c, e = .returned (.agg #[.slice a r.length c]) ∧ RS (.slice a r.length c) r w'' ∧ Below w'.heap.size w' w'') :
    Calls Try.prog 15 #[.agg #[vL, .int .i64 q.at_, .int .i64 q.px, .int .i64 q.py, vT, .int .i64 q.how]] w fun e w' => ∃ v', e = .returned (.agg #[v']) ∧ RS v' (ofR q T r) w' ∧ Below w.heap.size w w' := by
  have B := Below.refl w.heap.size w
  have MD := Lib.hid hMD
  have HT := Lib.hid hT
  clear hMD hT
  by_cases h0 : r.length = 0
  · obtain rfl := List.eq_nil_of_length_eq_zero h0
    have E := Lib.hid (show ofR q T [] = [] by unfold ofR; rw [if_pos h0])
    go_enter Try.func15, Try.ntmps15
    go_wp2_with (first | (refine wpList_storeB (t := 30) rfl _ _ rfl _ rfl _ rfl r2 (by kernel_rfl) rfl (by simp [Value.oneCell']) ?_; have r2o := r2; clear r2; intro wn ht hcn hzn; (try replace rs1 := rs1.chg r2o (by simp) hcn); have hsz := B.size; replace hzn := Nat.le_of_eq hzn.symm; replace B := Chg.below B hcn (by omega) B.size; (try replace q1 := q1.of_eq (hcn.block _ q1.lt (by omega))); (try replace r3 := r3.of_eq (hcn.block _ r3.lt (by omega))); (try replace rc := rc.of_eq (hcn.block _ rc.lt (by omega))); have r2 := ht; clear ht; simp only [Act.put, putS]) | (refine wpList_loadAny (t := 30) rfl _ rfl _ _ _ rfl (run_load_B r3 Try.isAgg30 (by kernel_rfl)) (by rfl) ?_; simp only [Act.put, putS]) | (refine wpList_loadAny (t := 28) rfl _ rfl _ _ _ rfl (run_load_sl r3.cell0) (by rfl) ?_; simp only [Act.put, putS]) | (refine wpList_loadAny (t := 22) rfl _ rfl _ _ _ rfl (run_load_sli (q1.cell 0 rfl)) (by rfl) ?_; simp only [Act.put, putS]) | (go_at_call 18; refine (MD.out _ B).mono ?_; rintro e wn ⟨a1, c1, rfl, rs1, hbn⟩; have hsz := B.size; have hzn := hbn.size; replace B := B.trans (hbn.mono B.size); (try first | replace q1 := q1.of_eq (hbn.block _ q1.lt) | replace q1 := q1.below hbn); (try first | replace r2 := r2.of_eq (hbn.block _ r2.lt) | replace r2 := r2.below hbn); (try first | replace r3 := r3.of_eq (hbn.block _ r3.lt) | replace r3 := r3.below hbn)) | (refine wpList_storeB (t := 30) rfl _ _ rfl _ rfl _ rfl r3 (by kernel_rfl) rfl (by simp [Value.oneCell']) ?_; have r3o := r3; clear r3; intro wn ht hcn hzn; (try replace rs1 := rs1.chg r3o (by simp) hcn); have hsz := B.size; replace hzn := Nat.le_of_eq hzn.symm; replace B := Chg.below B hcn (by omega) B.size; (try replace q1 := q1.of_eq (hcn.block _ q1.lt (by omega))); (try replace r2 := r2.of_eq (hcn.block _ r2.lt (by omega))); have r3 := ht; clear ht; simp only [Act.put, putS]) | (have _ := rs1; refine wpList_allocBk (t := 30) rfl _ (run_alloc_R _ _ rfl) ?_; intro b_r3 wn hle hge ht hbn hzn; have hsz := B.size; replace B := B.trans (hbn.mono (by omega)); have hln := Nat.lt_of_lt_of_eq (Nat.lt_succ_self _) hzn.symm; clear hzn; (try first | (have hlt := q1.lt; replace q1 := q1.of_eq (hbn.block _ (by omega))) | replace q1 := q1.below (hbn.mono hle)); (try first | (have hlt := r2.lt; replace r2 := r2.of_eq (hbn.block _ (by omega))) | replace r2 := r2.below (hbn.mono hle)); (try first | (have hlt := r3.lt; replace r3 := r3.of_eq (hbn.block _ (by omega))) | replace r3 := r3.below (hbn.mono hle)); (try first | (have hlt := rs1.lt; replace rs1 := rs1.of_eq (hbn.block _ (by omega))) | replace rs1 := rs1.below (hbn.mono hle)); have r3 := ht; clear ht; simp only [Act.put, putS]) | (have _ := q1; refine wpList_allocBk (t := 30) rfl _ (run_alloc_R _ _ rfl) ?_; intro b_r2 wn hle hge ht hbn hzn; have hsz := B.size; replace B := B.trans (hbn.mono (by omega)); have hln := Nat.lt_of_lt_of_eq (Nat.lt_succ_self _) hzn.symm; clear hzn; (try first | (have hlt := q1.lt; replace q1 := q1.of_eq (hbn.block _ (by omega))) | replace q1 := q1.below (hbn.mono hle)); (try first | (have hlt := r2.lt; replace r2 := r2.of_eq (hbn.block _ (by omega))) | replace r2 := r2.below (hbn.mono hle)); (try first | (have hlt := r3.lt; replace r3 := r3.of_eq (hbn.block _ (by omega))) | replace r3 := r3.below (hbn.mono hle)); have r2 := ht; clear ht; simp only [Act.put, putS]) | (refine wpList_boxB (t := 26) rfl _ rfl _ rfl ?_; intro b_q1 wn hle hge ht hbn hzn; have hsz := B.size; replace B := B.trans (hbn.mono (by omega)); have hln := Nat.lt_of_lt_of_eq (Nat.lt_succ_self _) hzn.symm; clear hzn; (try first | (have hlt := q1.lt; replace q1 := q1.of_eq (hbn.block _ (by omega))) | replace q1 := q1.below (hbn.mono hle)); (try first | (have hlt := r2.lt; replace r2 := r2.of_eq (hbn.block _ (by omega))) | replace r2 := r2.below (hbn.mono hle)); (try first | (have hlt := r3.lt; replace r3 := r3.of_eq (hbn.block _ (by omega))) | replace r3 := r3.below (hbn.mono hle)); have q1 := ht; clear ht; simp only [Act.put, putS]) | fail)
    refine bodyPost_ret (results_B (t := 30) rfl _ _ (b_r2) rfl r2 Try.isAgg30 (by kernel_rfl)) rfl ?_
    exact ⟨_, rfl, by rw [E.out]; exact rs1, B⟩
  · have hi := ofI_lt q (n := r.length) (by omega)
    obtain ⟨m, hm⟩ : ∃ m : Nat, q.at_ % 65536 = (m : Int) := ⟨(q.at_ % 65536).toNat, by omega⟩
    have hm2 : m < 65536 := by omega
    have hmi : m % r.length = ofI q r.length := by unfold ofI; rw [hm]; rfl
    have b4 := bits_and65535 q.at_
    rw [hm] at b4
    have b7 := bits_and7 q.how
    have HI := Lib.hid hmi
    clear hm hmi
    go_enter Try.func15, Try.ntmps15
    go_upto_region 6 with (first | (at_builtin; refine wpList_appendT rfl _ _ rfl _ _ rfl rfl od (rs1) (by simp only [List.length_nil]; omega) (by omega) ?_; intro v_od wn ht hbn; have hsz := B.size; have hzn := hbn.size; replace B := B.trans (hbn.mono (by omega)); clear od; (try replace q1 := q1.of_eq (hbn.block _ (by omega))); (try replace r2 := r2.of_eq (hbn.block _ (by omega))); (try replace r3 := r3.of_eq (hbn.block _ (by omega))); (try replace rs1 := rs1.of_eq (hbn.block _ (by omega))); have od := ht; clear ht; simp only [Act.put, putS]) | (refine wpList_bsET rfl rfl ?_; intro b_od wn hle hge ht hbn hzn; have hsz := B.size; replace B := B.trans (hbn.mono (by omega)); have od := ht; clear ht; (try first | (have hlt := q1.lt; replace q1 := q1.of_eq (hbn.block _ (by omega))) | replace q1 := q1.below (hbn.mono hle)); (try first | (have hlt := r2.lt; replace r2 := r2.of_eq (hbn.block _ (by omega))) | replace r2 := r2.below (hbn.mono hle)); (try first | (have hlt := r3.lt; replace r3 := r3.of_eq (hbn.block _ (by omega))) | replace r3 := r3.below (hbn.mono hle)); (try first | (have hlt := rs1.lt; replace rs1 := rs1.of_eq (hbn.block _ (by omega))) | replace rs1 := rs1.below (hbn.mono hle)); simp only [Act.put, putS]) | (refine wpList_loadAny (t := 3) rfl _ rfl _ _ _ rfl (run_load_int (q1.cell 1 rfl)) (by rfl) ?_; simp only [Act.put, putS]) | (refine wpList_loadAny (t := 28) rfl _ rfl _ _ _ rfl (run_load_sl r3.cell0) (by rfl) ?_; simp only [Act.put, putS]) | (refine wpList_loadAny (t := 22) rfl _ rfl _ _ _ rfl (run_load_sli (q1.cell 0 rfl)) (by rfl) ?_; simp only [Act.put, putS]) | (go_at_call 18; refine (MD.out _ B).mono ?_; rintro e wn ⟨a1, c1, rfl, rs1, hbn⟩; have hsz := B.size; have hzn := hbn.size; replace B := B.trans (hbn.mono B.size); (try first | replace q1 := q1.of_eq (hbn.block _ q1.lt) | replace q1 := q1.below hbn); (try first | replace r2 := r2.of_eq (hbn.block _ r2.lt) | replace r2 := r2.below hbn); (try first | replace r3 := r3.of_eq (hbn.block _ r3.lt) | replace r3 := r3.below hbn)) | (refine wpList_storeB (t := 30) rfl _ _ rfl _ rfl _ rfl r3 (by kernel_rfl) rfl (by simp [Value.oneCell']) ?_; have r3o := r3; clear r3; intro wn ht hcn hzn; (try replace rs1 := rs1.chg r3o (by simp) hcn); have hsz := B.size; replace hzn := Nat.le_of_eq hzn.symm; replace B := Chg.below B hcn (by omega) B.size; (try replace q1 := q1.of_eq (hcn.block _ q1.lt (by omega))); (try replace r2 := r2.of_eq (hcn.block _ r2.lt (by omega))); have r3 := ht; clear ht; simp only [Act.put, putS]) | (have _ := rs1; refine wpList_allocBk (t := 30) rfl _ (run_alloc_R _ _ rfl) ?_; intro b_r3 wn hle hge ht hbn hzn; have hsz := B.size; replace B := B.trans (hbn.mono (by omega)); have hln := Nat.lt_of_lt_of_eq (Nat.lt_succ_self _) hzn.symm; clear hzn; (try first | (have hlt := q1.lt; replace q1 := q1.of_eq (hbn.block _ (by omega))) | replace q1 := q1.below (hbn.mono hle)); (try first | (have hlt := r2.lt; replace r2 := r2.of_eq (hbn.block _ (by omega))) | replace r2 := r2.below (hbn.mono hle)); (try first | (have hlt := r3.lt; replace r3 := r3.of_eq (hbn.block _ (by omega))) | replace r3 := r3.below (hbn.mono hle)); (try first | (have hlt := rs1.lt; replace rs1 := rs1.of_eq (hbn.block _ (by omega))) | replace rs1 := rs1.below (hbn.mono hle)); have r3 := ht; clear ht; simp only [Act.put, putS]) | (have _ := q1; refine wpList_allocBk (t := 30) rfl _ (run_alloc_R _ _ rfl) ?_; intro b_r2 wn hle hge ht hbn hzn; have hsz := B.size; replace B := B.trans (hbn.mono (by omega)); have hln := Nat.lt_of_lt_of_eq (Nat.lt_succ_self _) hzn.symm; clear hzn; (try first | (have hlt := q1.lt; replace q1 := q1.of_eq (hbn.block _ (by omega))) | replace q1 := q1.below (hbn.mono hle)); (try first | (have hlt := r2.lt; replace r2 := r2.of_eq (hbn.block _ (by omega))) | replace r2 := r2.below (hbn.mono hle)); (try first | (have hlt := r3.lt; replace r3 := r3.of_eq (hbn.block _ (by omega))) | replace r3 := r3.below (hbn.mono hle)); have r2 := ht; clear ht; simp only [Act.put, putS]) | (refine wpList_boxB (t := 26) rfl _ rfl _ rfl ?_; intro b_q1 wn hle hge ht hbn hzn; have hsz := B.size; replace B := B.trans (hbn.mono (by omega)); have hln := Nat.lt_of_lt_of_eq (Nat.lt_succ_self _) hzn.symm; clear hzn; (try first | (have hlt := q1.lt; replace q1 := q1.of_eq (hbn.block _ (by omega))) | replace q1 := q1.below (hbn.mono hle)); (try first | (have hlt := r2.lt; replace r2 := r2.of_eq (hbn.block _ (by omega))) | replace r2 := r2.below (hbn.mono hle)); (try first | (have hlt := r3.lt; replace r3 := r3.of_eq (hbn.block _ (by omega))) | replace r3 := r3.below (hbn.mono hle)); have q1 := ht; clear ht; simp only [Act.put, putS]) | fail)
    have hx : (m : Int) % (r.length : Int) = ((ofI q r.length : Nat) : Int) := by rw [← HI.out]; rfl
    rw [hx]
    clear hx
    obtain ⟨i, hie⟩ : ∃ i, ofI q r.length = i := ⟨_, rfl⟩
    rw [hie] at hi ⊢
    have HIE := Lib.hid hie
    clear hie
    rw [List.nil_append] at od
    obtain ⟨g, cg, rfl, hBg, rc, hf⟩ := od.row (by omega)
    have HF := Lib.hid hf
    clear hf
    have hcg : r.length ≤ cg := by
      obtain ⟨_, _, e, hh⟩ := od.len
      injection e with _ _ e3
      omega
    have hod := b_od
    have q8 : 0 ≤ q.how % 8 ∧ q.how % 8 < 8 := by omega
    have RES : Hid (∀ (ks : List TA) (wx : World), ks.length = r.length → RCells g 0 ks wx → RS (.slice (some ⟨g, 0, none⟩) r.length cg) ks wx) := Lib.hid fun ks wx e rcx => .inr ⟨g, 0, cg, by rw [e], by omega, fun _ => rcx⟩
    by_cases h1 : q.how % 8 = 1
    · have E := Lib.hid (show ofR q T r = r.set i (turnA q T (aT r i)) by unfold ofR; rw [if_neg h0, if_neg (by omega), HIE.out])
      have E2 := Lib.hid (show turnA q T (aT r i) = ⟨q.px, q.py, (aT r i).t⟩ by unfold turnA; rw [if_pos h1])
      rw [h1] at b7
      go_wp2_with (first | (refine wpList_storeB (t := 30) rfl _ _ rfl _ rfl _ rfl r2 (by kernel_rfl) rfl (by simp [Value.oneCell']) ?_; have r2o := r2; clear r2; intro wn ht hcn hzn; (try replace rs1 := rs1.chg r2o (by simp) hcn); have hsz := B.size; replace hzn := Nat.le_of_eq hzn.symm; replace B := Chg.below B hcn (by omega) B.size; (try replace q1 := q1.of_eq (hcn.block _ q1.lt (by omega))); (try replace r3 := r3.of_eq (hcn.block _ r3.lt (by omega))); (try replace rc := rc.of_eq (hcn.block _ rc.lt (by omega))); have r2 := ht; clear ht; simp only [Act.put, putS]) | (refine wpList_storePos rfl _ _ rfl _ rfl _ _ rfl rc HF.out i hi (by first | with_reducible rfl | omega) ?_; clear rc; intro wn ht hcn hzn; have hsz := B.size; replace hzn := Nat.le_of_eq hzn.symm; replace B := Chg.below B hcn (by omega) B.size; (try replace q1 := q1.of_eq (hcn.block _ q1.lt (by omega))); (try replace r2 := r2.of_eq (hcn.block _ r2.lt (by omega))); (try replace r3 := r3.of_eq (hcn.block _ r3.lt (by omega))); have rc := ht; clear ht; simp only [Act.put, putS]) | (refine wpList_loadAny (t := 24) rfl _ rfl _ _ _ rfl (run_load_ps (q1.cell 2 rfl) (q1.cell 3 rfl)) (by rfl) ?_; simp only [Act.put, putS]) | (refine wpList_loadAny (t := 3) rfl _ rfl _ _ _ rfl (run_load_int (q1.cell 5 rfl)) (by rfl) ?_; simp only [Act.put, putS]) | fail)
      refine bodyPost_ret (results_B (t := 30) rfl _ _ (b_r2) rfl r2 Try.isAgg30 (by kernel_rfl)) rfl ?_
      exact ⟨_, rfl, by rw [E.out, E2.out]; exact RES.out _ _ (List.length_set ..) rc, B⟩
    by_cases h2 : q.how % 8 = 2
    · have E := Lib.hid (show ofR q T r = r.set i (turnA q T (aT r i)) by unfold ofR; rw [if_neg h0, if_neg (by omega), HIE.out])
      have E2 := Lib.hid (show turnA q T (aT r i) = ⟨(aT r i).x, (aT r i).y, madeT T⟩ by unfold turnA; rw [if_neg (by omega), if_pos h2])
      rw [h2] at b7
      go_wp2_with (first | (refine wpList_storeB (t := 30) rfl _ _ rfl _ rfl _ rfl r2 (by kernel_rfl) rfl (by simp [Value.oneCell']) ?_; have r2o := r2; clear r2; intro wn ht hcn hzn; (try replace rs1 := rs1.chg r2o (by simp) hcn); have hsz := B.size; replace hzn := Nat.le_of_eq hzn.symm; replace B := Chg.below B hcn (by omega) B.size; (try replace q1 := q1.of_eq (hcn.block _ q1.lt (by omega))); (try replace r3 := r3.of_eq (hcn.block _ r3.lt (by omega))); (try replace rc := rc.of_eq (hcn.block _ rc.lt (by omega))); have r2 := ht; clear ht; simp only [Act.put, putS]) | (refine wpList_storeTl rfl _ _ rfl _ rfl _ rfl rc HF.out i hi (by first | with_reducible rfl | omega) ?_; clear rc; intro wn ht hcn hzn; have hsz := B.size; replace hzn := Nat.le_of_eq hzn.symm; replace B := Chg.below B hcn (by omega) B.size; (try replace q1 := q1.of_eq (hcn.block _ q1.lt (by omega))); (try replace r2 := r2.of_eq (hcn.block _ r2.lt (by omega))); (try replace r3 := r3.of_eq (hcn.block _ r3.lt (by omega))); have rc := ht; clear ht; simp only [Act.put, putS]) | (go_at_call 25; refine (R_Made7 _ T _ (HT.out.below B) hTn).mono ?_; rintro e wn ⟨rfl, hbn⟩; have hsz := B.size; have hzn := hbn.size; replace B := B.trans (hbn.mono B.size); replace od := od.below hbn; have HF := Lib.hid (od.frz (by omega)); (try first | replace q1 := q1.of_eq (hbn.block _ q1.lt) | replace q1 := q1.below hbn); (try first | replace r2 := r2.of_eq (hbn.block _ r2.lt) | replace r2 := r2.below hbn); (try first | replace r3 := r3.of_eq (hbn.block _ r3.lt) | replace r3 := r3.below hbn); (try first | replace rc := rc.of_eq (hbn.block _ rc.lt) | replace rc := rc.below hbn)) | (refine wpList_loadAny (t := 22) rfl _ rfl _ _ _ rfl (run_load_sli (q1.cell 4 rfl)) (by rfl) ?_; simp only [Act.put, putS]) | (refine wpList_loadAny (t := 3) rfl _ rfl _ _ _ rfl (run_load_int (q1.cell 5 rfl)) (by rfl) ?_; simp only [Act.put, putS]) | fail)
      refine bodyPost_ret (results_B (t := 30) rfl _ _ (b_r2) rfl r2 Try.isAgg30 (by kernel_rfl)) rfl ?_
      exact ⟨_, rfl, by rw [E.out, E2.out]; exact RES.out _ _ (List.length_set ..) rc, B⟩
    by_cases h3 : q.how % 8 = 3
    · have E := Lib.hid (show ofR q T r = r.set i (turnA q T (aT r i)) by unfold ofR; rw [if_neg h0, if_neg (by omega), HIE.out])
      have E2 := Lib.hid (show turnA q T (aT r i) = ⟨(aT r i).x, (aT r i).y, ninT (aT r i).t⟩ by unfold turnA; rw [if_neg (by omega), if_neg (by omega), if_pos h3])
      rw [h3] at b7
      go_wp2_with (first | (refine wpList_storeB (t := 30) rfl _ _ rfl _ rfl _ rfl r2 (by kernel_rfl) rfl (by simp [Value.oneCell']) ?_; have r2o := r2; clear r2; intro wn ht hcn hzn; (try replace rs1 := rs1.chg r2o (by simp) hcn); have hsz := B.size; replace hzn := Nat.le_of_eq hzn.symm; replace B := Chg.below B hcn (by omega) B.size; (try replace q1 := q1.of_eq (hcn.block _ q1.lt (by omega))); (try replace r3 := r3.of_eq (hcn.block _ r3.lt (by omega))); (try replace rc := rc.of_eq (hcn.block _ rc.lt (by omega))); have r2 := ht; clear ht; simp only [Act.put, putS]) | (refine wpList_storeNin rfl _ _ rfl _ rfl rfl rc HF.out i hi (by first | with_reducible rfl | omega) ?_; clear rc; intro wn ht hcn hzn; have hsz := B.size; replace hzn := Nat.le_of_eq hzn.symm; replace B := Chg.below B hcn (by omega) B.size; (try replace q1 := q1.of_eq (hcn.block _ q1.lt (by omega))); (try replace r2 := r2.of_eq (hcn.block _ r2.lt (by omega))); (try replace r3 := r3.of_eq (hcn.block _ r3.lt (by omega))); have rc := ht; clear ht; simp only [Act.put, putS]) | (refine wpList_loadAny (t := 3) rfl _ rfl _ _ _ rfl (run_load_int (q1.cell 5 rfl)) (by rfl) ?_; simp only [Act.put, putS]) | fail)
      refine bodyPost_ret (results_B (t := 30) rfl _ _ (b_r2) rfl r2 Try.isAgg30 (by kernel_rfl)) rfl ?_
      exact ⟨_, rfl, by rw [E.out, E2.out]; exact RES.out _ _ (List.length_set ..) rc, B⟩
    by_cases h4 : q.how % 8 = 4
    · have E := Lib.hid (show ofR q T r = r ++ [aT r i] by unfold ofR; rw [if_neg h0, if_pos h4, HIE.out])
      rw [h4] at b7
      go_wp2_with (first | (refine wpList_storeB (t := 30) rfl _ _ rfl _ rfl _ rfl r2 (by kernel_rfl) rfl (by simp [Value.oneCell']) ?_; clear r2; intro wn ht hcn hzn; have hsz := B.size; replace hzn := Nat.le_of_eq hzn.symm; replace B := Chg.below B hcn (by omega) B.size; (try replace q1 := q1.of_eq (hcn.block _ q1.lt (by omega))); (try replace r3 := r3.of_eq (hcn.block _ r3.lt (by omega))); replace od := od.chg hcn (by omega); have r2 := ht; clear ht; simp only [Act.put, putS]) | (at_builtin; refine wpList_appendT rfl _ _ rfl _ _ rfl rfl od ((RS.one s1)) (by simp only [List.length_cons, List.length_nil]; omega) (by omega) ?_; intro v_od wn ht hbn; have hsz := B.size; have hzn := hbn.size; replace B := B.trans (hbn.mono (by omega)); clear od; (try replace q1 := q1.of_eq (hbn.block _ (by omega))); (try replace r2 := r2.of_eq (hbn.block _ (by omega))); (try replace r3 := r3.of_eq (hbn.block _ (by omega))); have od := ht; clear ht; obtain ⟨a_od, c_od, hv, hco⟩ := od.len; (try simp only [List.length_append, List.length_cons, List.length_nil, Nat.zero_add] at hv hco); subst hv; simp only [Act.put, putS]) | (refine wpList_bs1T rfl _ rfl (aT r i) (by rfl) ?_; intro b_s1 wn hle hge ht hbn hzn; have hsz := B.size; replace B := B.trans (hbn.mono (by omega)); have hln := Nat.lt_of_lt_of_eq (Nat.lt_succ_self _) hzn.symm; clear hzn; (try first | (have hlt := q1.lt; replace q1 := q1.of_eq (hbn.block _ (by omega))) | replace q1 := q1.below (hbn.mono hle)); (try first | (have hlt := r2.lt; replace r2 := r2.of_eq (hbn.block _ (by omega))) | replace r2 := r2.below (hbn.mono hle)); (try first | (have hlt := r3.lt; replace r3 := r3.of_eq (hbn.block _ (by omega))) | replace r3 := r3.below (hbn.mono hle)); (try first | (have hlt := od.lt; replace od := od.of_eq (hbn.block _ (by omega))) | replace od := od.below (hbn.mono hle)); (try first | (have hlt := rc.lt; replace rc := rc.of_eq (hbn.block _ (by omega))) | replace rc := rc.below (hbn.mono hle)); have s1 := ht; clear ht; simp only [Act.put, putS]) | (refine wpList_loadAny (t := 79) rfl _ rfl _ _ _ rfl (rc_ta rc hi rfl) (by first | with_reducible rfl | omega) ?_; simp only [Act.put, putS]) | (refine wpList_loadAny (t := 3) rfl _ rfl _ _ _ rfl (run_load_int (q1.cell 5 rfl)) (by rfl) ?_; simp only [Act.put, putS]) | fail)
      refine bodyPost_ret (results_B (t := 30) rfl _ _ (b_r2) rfl r2 Try.isAgg30 (by kernel_rfl)) rfl ?_
      exact ⟨_, rfl, by rw [E.out]; exact od.rs, B⟩
    · have E := Lib.hid (show ofR q T r = r by
        have hsame : r.set i (aT r i) = r := by
          apply List.ext_getElem?
          intro k
          rw [List.getElem?_set]
          by_cases hk : i = k
          · subst hk; rw [if_pos rfl, if_pos hi, aT_at hi]
          · rw [if_neg hk]
        unfold ofR turnA
        rw [if_neg h0, if_neg h4, if_neg h1, if_neg h2, if_neg h3, HIE.out, hsame])
      have d1 : (q.how % 8 == 1) = false := by simpa using h1
      have d2 : (q.how % 8 == 2) = false := by simpa using h2
      have d3 : (q.how % 8 == 3) = false := by simpa using h3
      have d4 : (q.how % 8 == 4) = false := by simpa using h4
      go_wp2_with (first | (refine wpList_storeB (t := 30) rfl _ _ rfl _ rfl _ rfl r2 (by kernel_rfl) rfl (by simp [Value.oneCell']) ?_; have r2o := r2; clear r2; intro wn ht hcn hzn; (try replace rs1 := rs1.chg r2o (by simp) hcn); have hsz := B.size; replace hzn := Nat.le_of_eq hzn.symm; replace B := Chg.below B hcn (by omega) B.size; (try replace q1 := q1.of_eq (hcn.block _ q1.lt (by omega))); (try replace r3 := r3.of_eq (hcn.block _ r3.lt (by omega))); (try replace rc := rc.of_eq (hcn.block _ rc.lt (by omega))); have r2 := ht; clear ht; simp only [Act.put, putS]) | (refine wpList_loadAny (t := 3) rfl _ rfl _ _ _ rfl (run_load_int (q1.cell 5 rfl)) (by rfl) ?_; simp only [Act.put, putS]) | fail)
      refine bodyPost_ret (results_B (t := 30) rfl _ _ (b_r2) rfl r2 Try.isAgg30 (by kernel_rfl)) rfl ?_
      exact ⟨_, rfl, by rw [E.out]; exact RES.out _ _ rfl rc, B⟩
end Go.Proofs.Ytppccnjckiedlaa
/- Contracts of `of` of the law package whole. -/
namespace Go.Proofs.Ytppccnjckiedlaa
open Go.RowKit Go.Shelf Pl
set_option linter.unusedVariables false
set_option linter.unusedSimpArgs false
set_option maxRecDepth 20000
theorem L_of (q : RawQ) (vL vT : Value) (L T : List Int) (w : World) (hL : RSE inE vL L w) (hLn : L.length ≤ 17592186044416) (hT : RSE inE vT T w) (hTn : T.length ≤ 17592186044416) :
    Calls Try.prog 15 #[.agg #[vL, .int .i64 q.at_, .int .i64 q.px, .int .i64 q.py, vT, .int .i64 q.how]] w fun e w' => ∃ v', e = .returned (.agg #[v']) ∧ RS v' (ofL q L T) w' ∧ Below w.heap.size w w' :=
  L_of0 q vL vT T (madeL L) w (madeL_len L) hT hTn fun w' hb => R_Made8O vL L w' (hL.below hb) hLn
end Go.Proofs.Ytppccnjckiedlaa
/- How this seat's arguments are opened: slices of integers, rectangles, generated rasters. -/
namespace Go.Proofs.Ytppccnjckiedlaa
open Go.ChangeShapes Go.WideShapes Go.ChangeAt Go.RowKit Pl
set_option linter.unusedVariables false
set_option linter.unusedSimpArgs false
set_option maxRecDepth 20000

theorem reach_44 : reachBytes ≤ 140737488351232 := by decide
section
variable {H : Type} {enc : TypeId × Value → H} {w : World} {base : Nat} {spare : Nat → Bool} {held : Bool}
theorem addr_add0 (b off n : Nat) : (Addr.add ⟨b, off, none⟩ n) = ⟨b, off + n, none⟩ := by
  unfold Addr.add; split
  · rename_i h; subst h; rfl
  · rfl
theorem trod_ints {fuel : Nat} {cs : List Value} {x : DataW H × List MemPlace} (h : DataW.trod enc Try.prog w base spare held fuel 22 cs = some x) (hw : ∀ n ∈ x.1.weights Try.prog 22, n ≤ reachBytes) :
    ∃ v L, cs = [v] ∧ RSE inE v L w ∧ L.length ≤ 17592186044416 := by
  have hC : Try.prog.cellsOf 3 = 1 := by kernel_rfl
  have hB : Try.prog.bytesOf 3 = 8 := by kernel_rfl
  rcases open_ints Try.underlying22 Try.underlying3 hC h with ⟨rfl, rfl⟩ | ⟨a, len, cap, zs, rfl, _, hl, hcap, hz, rfl, hcell, _⟩
  · exact ⟨_, [], rfl, RSE.nil w, by simp⟩
  · have hzl : len ≤ zs.length := by rw [hz]; split <;> omega
    have htl : (zs.take len).length = len := by rw [List.length_take, Nat.min_eq_left hzl]
    refine ⟨_, zs.take len, rfl, ?_, ?_⟩
    · by_cases h0 : len = 0
      · subst h0; exact .inr (.inr ⟨a, cap, rfl, by simp⟩)
      · obtain ⟨b, off, spot⟩ := a
        have c0 := hcell 0 (by omega)
        have hspot : spot = none := by simpa [Addr.add] using World.cell?_spot c0
        subst hspot
        simp only [addr_add0] at hcell c0
        refine .inr (.inl ⟨b, off, cap, by rw [htl], by rw [htl]; exact hl, fun _ => ⟨World.block_lt_of_cell? w _ c0, fun i x hi j hj => ?_⟩⟩)
        obtain rfl : j = 0 := by omega
        have hil : i < len := by rw [← htl]; exact (List.getElem?_eq_some_iff.1 hi).1
        rw [List.getElem?_take_of_lt hil] at hi
        rw [Nat.mul_one, Nat.add_zero, hcell i (by omega), List.getD_eq_getElem?_getD, hi]
        rfl
    · rw [htl]
      have := hw ((len + (zs.length - len)) * 8) (by simp [DataW.weights, Try.underlying22, hB, lits, Nat.min_eq_left hzl])
      have := reach_44
      omega
theorem trod_int1 {fuel : Nat} {cs : List Value} {x : DataW H × List MemPlace} (h : DataW.trod enc Try.prog w base spare held fuel 3 cs = some x) : ∃ n : Int, cs = [.int .i64 n] ∧ (Lit.int .i64 n).wf = true := by
  obtain ⟨n, e, _, wf⟩ := DataW.trod_int Try.underlying3 h
  exact ⟨n, e, wf⟩
theorem trod_tpos {fuel : Nat} {c0 c1 : Value} {x : DataW H × List MemPlace} (h : DataW.trod enc Try.prog w base spare held fuel 24 [c0, c1] = some x) :
    ∃ a b : Int, c0 = .int .i64 a ∧ c1 = .int .i64 b ∧ (Lit.int .i64 a).wf = true ∧ (Lit.int .i64 b).wf = true := by
  have hC : Try.prog.cellsOf 3 = 1 := by kernel_rfl
  obtain ⟨y0, y1, n, _, _, h0, h1⟩ := trod_struct2 Try.underlying24 h
  simp only [hC, List.drop_zero, List.drop_succ_cons, List.take_succ_cons, List.take_zero] at h0 h1
  obtain ⟨a, ea, wa⟩ := trod_int1 h0
  obtain ⟨b, eb, wb⟩ := trod_int1 h1
  simp at ea eb
  exact ⟨a, b, ea, eb, wa, wb⟩
theorem array6 {α : Type} {cs : Array α} (h : cs.size = 6) : ∃ c0 c1 c2 c3 c4 c5, cs = #[c0, c1, c2, c3, c4, c5] := by
  obtain ⟨l⟩ := cs
  match l, h with
  | [c0, c1, c2, c3, c4, c5], _ => exact ⟨c0, c1, c2, c3, c4, c5, rfl⟩
theorem open_raw {r : Reach} {b0 : Nat} {v : Value} {d : DataW H} {p : List MemPlace} (hv : Value.okWide Try.prog w r b0 26 v)
    (h : DataW.Trod enc Try.prog w base spare held 26 v d p) (hw : ∀ n ∈ d.weights Try.prog 26, n ≤ reachBytes) :
    ∃ (q : RawQ) (vL vT : Value) (L T : List Int), v = .agg #[vL, .int .i64 q.at_, .int .i64 q.px, .int .i64 q.py, vT, .int .i64 q.how] ∧ RSE inE vL L w ∧ L.length ≤ 17592186044416 ∧ RSE inE vT T w ∧ T.length ≤ 17592186044416 := by
  obtain ⟨cs, rfl, hsz⟩ := okWide_struct Try.underlying26 hv
  have hC : Try.prog.cellsOf 3 = 1 := by kernel_rfl
  have hC2 : Try.prog.cellsOf 24 = 2 := by kernel_rfl
  have hCs : Try.prog.cellsOf 22 = 1 := by kernel_rfl
  have hCR : Try.prog.cellsOf 26 = 6 := by kernel_rfl
  obtain ⟨c0, c1, c2, c3, c4, c5, rfl⟩ := array6 (hsz.trans hCR)
  obtain ⟨fuel, hf⟩ := h
  obtain ⟨xs, n, _, hx, hl, hlen, hfs⟩ := DataW.trod_struct Try.underlying26 hf
  match xs, hlen with
  | [y0, y1, y2, y3, y4], _ =>
    have h0 := hfs 0 _ rfl
    have h1 := hfs 1 _ rfl
    have h2 := hfs 2 _ rfl
    have h3 := hfs 3 _ rfl
    have h4 := hfs 4 _ rfl
    simp only [Value.cells, hC, hC2, hCs, List.drop_zero, List.drop_succ_cons, List.take_succ_cons, List.take_zero, List.getElem_toArray, List.getElem_cons_zero, List.getElem_cons_succ] at h0 h1 h2 h3 h4
    have hd : d = .agg [y0.1, y1.1, y2.1, y3.1, y4.1] := (Prod.mk.inj hx).1
    have hww : ∀ n, n ∈ y0.1.weights Try.prog 22 ∨ n ∈ y3.1.weights Try.prog 22 → n ≤ reachBytes := fun n hn => by
      refine hw n ?_
      rw [hd]
      simp only [DataW.weights, Try.underlying26]
      simp only [List.map_cons, List.map_nil, DataW.weightsEach, List.mem_append]
      rcases hn with hn | hn
      · exact .inl hn
      · exact .inr (.inr (.inr (.inl hn)))
    obtain ⟨vL, L, eL, rL, lL⟩ := trod_ints h0 fun n hn => hww n (.inl hn)
    obtain ⟨at_, ea, _⟩ := trod_int1 h1
    obtain ⟨px, py, e2, e3, _, _⟩ := trod_tpos h2
    obtain ⟨vT, T, eT, rT, lT⟩ := trod_ints h3 fun n hn => hww n (.inr hn)
    obtain ⟨how, eh, _⟩ := trod_int1 h4
    simp at eL ea eT eh
    subst eL; subst ea; subst e2; subst e3; subst eT; subst eh
    exact ⟨⟨at_, px, py, how⟩, _, _, L, T, rfl, rL, lL, rT, lT⟩
theorem open_rect {r : Reach} {b0 : Nat} {v : Value} {d : DataW H} {p : List MemPlace} (hv : Value.okWide Try.prog w r b0 64 v)
    (h : DataW.Trod enc Try.prog w base spare held 64 v d p) : ∃ c : Rc, v = Rc.v c ∧ ((Lit.int .i64 c.x0).wf = true ∧ (Lit.int .i64 c.y0).wf = true ∧ (Lit.int .i64 c.x1).wf = true ∧ (Lit.int .i64 c.y1).wf = true) := by
  obtain ⟨cs, rfl, hsz⟩ := okWide_struct Try.underlying64 hv
  have hC : Try.prog.cellsOf 3 = 1 := by kernel_rfl
  have hC4 : Try.prog.cellsOf 64 = 4 := by kernel_rfl
  obtain ⟨c0, c1, c2, c3, rfl⟩ := Joins.array4 (hsz.trans hC4)
  obtain ⟨fuel, hf⟩ := h
  obtain ⟨y0, y1, y2, y3, n, hx, _, h0, h1, h2, h3⟩ := Joins.trod_struct4 Try.underlying64 hf
  simp only [Value.cells, hC, List.drop_zero, List.drop_succ_cons, List.take_succ_cons, List.take_zero] at h0 h1 h2 h3
  obtain ⟨a, ea, wa⟩ := trod_int1 h0
  obtain ⟨b, eb, wb⟩ := trod_int1 h1
  obtain ⟨c, ec, wc⟩ := trod_int1 h2
  obtain ⟨e, ee, we⟩ := trod_int1 h3
  simp at ea eb ec ee
  subst ea; subst eb; subst ec; subst ee
  exact ⟨⟨a, b, c, e⟩, rfl, wa, wb, wc, we⟩
end
end Go.Proofs.Ytppccnjckiedlaa
/- Contract of gouacheref08.Full. -/
namespace Go.Proofs.Ytppccnjckiedlaa
open Go.RowKit Go.Shelf Pl
set_option linter.unusedVariables false
set_option linter.unusedSimpArgs false
set_option maxRecDepth 20000

def fullA (i : Nat) : TA := ⟨(i : Int) % 40, (i : Int) / 40, fillT ⟨(i : Int) % 256, 0, 0, 255⟩⟩
def fullL (n : Nat) : List TA := (List.range n).map fullA
end Go.Proofs.Ytppccnjckiedlaa
/- Plain laws of rasters: cropping, bounds. -/
namespace Go.Proofs.Ytppccnjckiedlaa
open Go.RowKit Pl
set_option linter.unusedVariables false
set_option linter.unusedSimpArgs false

/-- A tile cropped. -/
def cropT (c : Rc) (x y : Int) (t : Nat → Px) : Nat → Px := fun i => if i < 64 then (if hasR c (x * 8 + (i : Int) % 8) (y * 8 + (i : Int) / 8) = true then t i else Px.zero) else t i
def cropE (c : Rc) (e : TA) : List TA := newA e.x e.y (cropT c e.x e.y e.t)
theorem hasR_iff (r : Rc) (x y : Int) : hasR r x y = true ↔ (r.x0 ≤ x ∧ x < r.x1 ∧ r.y0 ≤ y ∧ y < r.y1) := by unfold hasR; exact decide_eq_true_iff
theorem emptyR_iff (r : Rc) : emptyR r = true ↔ (r.x1 ≤ r.x0 ∨ r.y1 ≤ r.y0) := by unfold emptyR; exact decide_eq_true_iff
theorem emptyR_not (r : Rc) : emptyR r = false ↔ (r.x0 < r.x1 ∧ r.y0 < r.y1) := by
  rw [← Bool.not_eq_true, emptyR_iff]; omega
theorem zeroB_iff (t : Nat → Px) : zeroB t = true ↔ ∀ i, i < 64 → (t i).a = 0 := by
  unfold zeroB
  rw [decide_eq_true_iff]
  exact ⟨fun h i hi => h i (List.mem_range.2 hi), fun h i hi => h i (List.mem_range.1 hi)⟩
theorem goodA_iff (e : TA) : goodA e = true ↔ withinB e.x e.y = true ∧ zeroB e.t = false ∧ eqT (cleanT e.t) e.t = true := by
  unfold goodA
  rw [Bool.and_eq_true, Bool.and_eq_true, Bool.not_eq_true']
theorem eqT_at {t u : Nat → Px} (h : eqT t u = true) {i : Nat} (hi : i < 64) : t i = u i := by
  unfold eqT at h
  exact of_decide_eq_true h i (List.mem_range.2 hi)
theorem eqA_refl (e : TA) : eqA e e = true := by
  unfold eqA eqB
  rw [eqT_refl, decide_eq_true ⟨rfl, rfl⟩]
  rfl
theorem eqL_refl (ls : List TA) : eqL ls ls = true := eqL_yes rfl fun j _ => eqA_refl _

/-! ### Bounds -/
/-- A pixel that is not transparent. -/
def Vis (ls : List TA) (x y : Int) : Prop := ∃ e, e ∈ ls ∧ ∃ i : Nat, i < 64 ∧ 0 < (e.t i).a ∧ x = e.x * 8 + (i : Int) % 8 ∧ y = e.y * 8 + (i : Int) / 8
/-- The least rectangle around V. -/
def Tight (V : Int → Int → Prop) (r : Rc) : Prop := (r = Rc.zero ∧ ∀ x y, ¬ V x y) ∨ (emptyR r = false ∧ (∀ x y, V x y → hasR r x y = true) ∧ (∃ y, V r.x0 y) ∧ (∃ x, V x r.y0) ∧ (∃ y, V (r.x1 - 1) y) ∧ ∃ x, V x (r.y1 - 1))
theorem Tight.add {V : Int → Int → Prop} {r : Rc} (h : Tight V r) (x y : Int) : Tight (fun a b => V a b ∨ (a = x ∧ b = y)) (unionR r ⟨x, y, x + 1, y + 1⟩) := by
  have h1 : emptyR ⟨x, y, x + 1, y + 1⟩ = false := (emptyR_not _).2 ⟨by show x < x + 1; omega, by show y < y + 1; omega⟩
  rcases h with ⟨rfl, hn⟩ | ⟨he, hin, ⟨ya, ha⟩, ⟨xb, hb⟩, ⟨yc, hc⟩, ⟨xd, hd⟩⟩
  · have e : unionR Rc.zero ⟨x, y, x + 1, y + 1⟩ = ⟨x, y, x + 1, y + 1⟩ := by
      unfold unionR normR
      rw [if_pos (by decide), h1]
      rfl
    rw [e]
    refine .inr ⟨h1, fun a b hv => ?_, ⟨y, .inr ⟨rfl, rfl⟩⟩, ⟨x, .inr ⟨rfl, rfl⟩⟩, ⟨y, .inr ⟨by show x + 1 - 1 = x; omega, rfl⟩⟩, ⟨x, .inr ⟨rfl, by show y + 1 - 1 = y; omega⟩⟩⟩
    rcases hv with hv | ⟨rfl, rfl⟩
    · exact absurd hv (hn a b)
    · rw [hasR_iff]; simp only; omega
  · have e : unionR r ⟨x, y, x + 1, y + 1⟩ = ⟨min r.x0 x, min r.y0 y, max r.x1 (x + 1), max r.y1 (y + 1)⟩ := by
      unfold unionR
      rw [he, h1, if_neg (by decide), if_neg (by decide)]
    rw [e]
    have hen := (emptyR_not r).1 he
    refine .inr ⟨(emptyR_not _).2 ⟨by show min r.x0 x < max r.x1 (x + 1); omega, by show min r.y0 y < max r.y1 (y + 1); omega⟩, fun a b hv => ?_, ?_, ?_, ?_, ?_⟩
    · rw [hasR_iff]
      simp only
      rcases hv with hv | ⟨rfl, rfl⟩
      · have := (hasR_iff r a b).1 (hin a b hv)
        omega
      · omega
    · show ∃ b, V (min r.x0 x) b ∨ (min r.x0 x = x ∧ b = y)
      by_cases hh : r.x0 ≤ x
      · exact ⟨ya, .inl (by rw [Int.min_eq_left hh]; exact ha)⟩
      · exact ⟨y, .inr ⟨by omega, rfl⟩⟩
    · show ∃ a, V a (min r.y0 y) ∨ (a = x ∧ min r.y0 y = y)
      by_cases hh : r.y0 ≤ y
      · exact ⟨xb, .inl (by rw [Int.min_eq_left hh]; exact hb)⟩
      · exact ⟨x, .inr ⟨rfl, by omega⟩⟩
    · show ∃ b, V (max r.x1 (x + 1) - 1) b ∨ (max r.x1 (x + 1) - 1 = x ∧ b = y)
      by_cases hh : x + 1 ≤ r.x1
      · exact ⟨yc, .inl (by rw [Int.max_eq_left hh]; exact hc)⟩
      · exact ⟨y, .inr ⟨by omega, rfl⟩⟩
    · show ∃ a, V a (max r.y1 (y + 1) - 1) ∨ (a = x ∧ max r.y1 (y + 1) - 1 = y)
      by_cases hh : y + 1 ≤ r.y1
      · exact ⟨xd, .inl (by rw [Int.max_eq_left hh]; exact hd)⟩
      · exact ⟨x, .inr ⟨rfl, by omega⟩⟩
theorem tileL_some (ls : List TA) (x y : Int) : tileL ls x y = zT ∨ ∃ e, e ∈ ls ∧ e.x = x ∧ e.y = y ∧ tileL ls x y = e.t := by
  induction ls with
  | nil => exact .inl rfl
  | cons e r ih =>
    unfold tileL
    by_cases h : eqB e.x e.y x y = true
    · rw [if_pos h]
      have := of_decide_eq_true h
      exact .inr ⟨e, List.mem_cons_self .., this.1, this.2, rfl⟩
    · rw [if_neg h]
      rcases ih with ih | ⟨k, hk, hr⟩
      · exact .inl ih
      · exact .inr ⟨k, List.mem_cons_of_mem _ hk, hr⟩
end Go.Proofs.Ytppccnjckiedlaa
/- Regions that draw their order, some of whose operations hand back values that are known by a fact alone: one walk in the order of the text serves for all orders. -/
namespace Go.Proofs.Ytppccnjckiedlaa
open Go.RowKit
set_option linter.unusedVariables false
set_option linter.unusedSimpArgs false

/-- What is known of an operation's value: its shape, a fact that lasts. -/
structure NSpec where
  α : Type
  ne : Nonempty α
  f : α → Value
  F : α → World → Prop
  mono : ∀ x w w', Below w.heap.size w w' → F x w → F x w'
theorem put_same {a b : Act} {d : Option Tmp} {u v : Value} (hs : b.tmps.size = a.tmps.size) (h : a.put d u = a.put d v) : b.put d u = b.put d v := by
  cases d with
  | none => rfl
  | some d =>
    have h1 : a.tmps.setIfInBounds d u = a.tmps.setIfInBounds d v := congrArg Act.tmps h
    show ({ b with tmps := b.tmps.setIfInBounds d u } : Act) = { b with tmps := b.tmps.setIfInBounds d v }
    by_cases hd : d < a.tmps.size
    · have h2 := congrArg (fun t : Array Value => t[d]?) h1
      simp [hd] at h2
      rw [h2]
    · have hd1 : a.tmps.size ≤ d := Nat.le_of_not_lt hd
      have hd2 : b.tmps.size ≤ d := hs ▸ hd1
      rw [Array.setIfInBounds_eq_of_size_le hd2, Array.setIfInBounds_eq_of_size_le hd2]
theorem put_size (a : Act) (d : Option Tmp) (v : Value) : (a.put d v).tmps.size = a.tmps.size := by
  cases d with
  | none => rfl
  | some d => show (a.tmps.setIfInBounds d v).size = _; simp
def envS (E : Nat → World → Prop) (k : Nat) (G : World → Prop) : Nat → World → Prop := fun j => if j = k then G else E j
theorem envS_comm (E : Nat → World → Prop) {k i : Nat} (h : k ≠ i) (A B : World → Prop) : envS (envS E k A) i B = envS (envS E i B) k A := by
  funext j
  unfold envS
  by_cases h1 : j = i
  · rw [if_pos h1, if_neg (by omega), if_pos h1]
  · rw [if_neg h1]
    by_cases h2 : j = k
    · rw [if_pos h2, if_pos h2]
    · rw [if_neg h2, if_neg h2, if_neg h1]
theorem envS_ne (E : Nat → World → Prop) {k j : Nat} (h : j ≠ k) (A : World → Prop) : envS E k A j = E j := if_neg h
section
variable {P : Program} {ops : Array Oper} {Q : Exit → Act → World → Prop} {md : Region.Mode} {C : World → Prop} {S : Nat → Option NSpec} {L : (Nat → World → Prop) → Act → Prop}
/-- The operation number k hands back a value as its specification says, wherever those it waits for have come. -/
def stepR (P : Program) (ops : Array Oper) (md : Region.Mode) (Q : Exit → Act → World → Prop) (C : World → Prop) (E : Nat → World → Prop) (k : Nat) (o : Oper) (a : Act) (s : NSpec) : Prop :=
  ∀ w, C w → (∀ j, Region.waitsFor md ops k j = true → E j w) → o.wp P a w (fun a' w' => ∃ x, a' = a.put o.dst (s.f x) ∧ s.F x w' ∧ Below w.heap.size w w') (NoPan Q)
theorem stepR_of {E : Nat → World → Prop} {k : Nat} {o : Oper} {a : Act} {s : NSpec}
    (h : ∀ w, C w → (∀ j, Region.waitsFor md ops k j = true → E j w) → ∀ K : Act → World → Prop, (∀ x w', s.F x w' → Below w.heap.size w w' → K (a.put o.dst (s.f x)) w') → o.wp P a w K (NoPan Q)) : stepR P ops md Q C E k o a s :=
  fun w hC hE => h w hC hE _ fun x w' h1 h2 => ⟨x, rfl, h1, h2⟩
theorem stepR_move {E E' : Nat → World → Prop} {k : Nat} {o : Oper} {a b : Act} {s : NSpec} (he : execOp b.eval o = execOp a.eval o) (hs : b.tmps.size = a.tmps.size) (hE : ∀ j w, Region.waitsFor md ops k j = true → E' j w → E j w)
    (h : stepR P ops md Q C E k o a s) : stepR P ops md Q C E' k o b s := by
  intro w hC hE'
  have h1 := h w hC fun j hj => hE j w hj (hE' j hj)
  unfold Oper.wp at *
  rw [he]
  generalize (execOp a.eval o).run P w = r at *
  cases r with
  | ok n w' =>
    cases n <;> simp only [Oper.upon] at h1 ⊢
    case value u => obtain ⟨x, h2, h3⟩ := h1; exact ⟨x, put_same hs h2, h3⟩
    case skip => obtain ⟨x, h2, h3⟩ := h1; exact ⟨x, put_same hs h2, h3⟩
    case defer d =>
      obtain ⟨x, h2, h3⟩ := h1
      have h4 := congrArg (fun y : Act => y.defers.length) h2
      cases ho : o.dst <;> rw [ho] at h4 <;> simp [Act.put] at h4
    case enter f args =>
      refine Calls.mono h1 fun e w'' he => ?_
      cases e with
      | returned u => obtain ⟨x, h2, h3⟩ := he; exact ⟨x, put_same hs h2, h3⟩
      | panicked c => exact he
      | outgrown => exact he
    case row row args => exact Rows.mono h1 fun u w'' ⟨x, h2, h3⟩ => ⟨x, put_same hs h2, h3⟩
  | halt x w' =>
    cases x <;> simp only [Oper.upon] at h1 ⊢
    case panic u => exact h1
/-- The walk in the order of the text. -/
def wpR (P : Program) (md : Region.Mode) (ops : Array Oper) (Q : Exit → Act → World → Prop) (C : World → Prop) (S : Nat → Option NSpec) (L : (Nat → World → Prop) → Act → Prop) : List Nat → (Nat → World → Prop) → Act → Prop
  | [], E, a => L E a
  | k :: r, E, a => match ops[k]? with
    | none => False
    | some o =>
      if Region.wanted o (yielded ops a.tmps) = true then
        match S k with
        | none => ∃ v, (∀ w, C w → (execOp a.eval o).run P w = .ok (.value v) w) ∧ wpR P md ops Q C S L r E (a.put o.dst v)
        | some s => stepR P ops md Q C E k o a s ∧ ∀ x, wpR P md ops Q C S L r (envS E k (s.F x)) (a.put o.dst (s.f x))
      else wpR P md ops Q C S L r E (a.put o.dst undef)
theorem wpR_swap {k i : Nat} {ok oi : Oper} {r : List Nat} (hk : ops[k]? = some ok) (hi : ops[i]? = some oi) (hap : ok.apart ops oi = true) (hsk : ∀ cs b, ok.op ≠ .select cs b) (hsi : ∀ cs b, oi.op ≠ .select cs b)
    (hne : k ≠ i) (hik : Region.waitsFor md ops i k = false) (hki : Region.waitsFor md ops k i = false) (hC : ∃ w, C w) {E : Nat → World → Prop} {a : Act}
    (h : wpR P md ops Q C S L (k :: i :: r) E a) : wpR P md ops Q C S L (i :: k :: r) E a := by
  obtain ⟨h1, h2, h3⟩ := Oper.apart_spec hap
  have ei : ∀ u, execOp (a.put ok.dst u).eval oi = execOp a.eval oi := fun u => execOp_put oi hsi a ok.dst u h1
  have ek : ∀ u, execOp (a.put oi.dst u).eval ok = execOp a.eval ok := fun u => execOp_put ok hsk a oi.dst u h3
  have wi : ∀ u, Region.wanted oi (yielded ops (a.put ok.dst u).tmps) = Region.wanted oi (yielded ops a.tmps) := fun u => wanted_put oi a ok.dst u h1
  have wk : ∀ u, Region.wanted ok (yielded ops (a.put oi.dst u).tmps) = Region.wanted ok (yielded ops a.tmps) := fun u => wanted_put ok a oi.dst u h3
  have pc : ∀ u v, (a.put ok.dst u).put oi.dst v = (a.put oi.dst v).put ok.dst u := fun u v => Act.put_comm a u v h2
  have Ek : ∀ (s : NSpec) x j w, Region.waitsFor md ops i j = true → E j w → envS E k (s.F x) j w := fun s x j w hj he => by
    rw [envS_ne]; exact he
    intro e; rw [e, hik] at hj; cases hj
  have Ek' : ∀ (s : NSpec) x j w, Region.waitsFor md ops i j = true → envS E k (s.F x) j w → E j w := fun s x j w hj he => by
    rw [envS_ne] at he; exact he
    intro e; rw [e, hik] at hj; cases hj
  have Ei' : ∀ (s : NSpec) x j w, Region.waitsFor md ops k j = true → envS E i (s.F x) j w → E j w := fun s x j w hj he => by
    rw [envS_ne] at he; exact he
    intro e; rw [e, hki] at hj; cases hj
  unfold wpR at h ⊢
  rw [hk] at h
  rw [hi]
  simp only at h ⊢
  -- the second's part of what the first leaves
  by_cases Wk : Region.wanted ok (yielded ops a.tmps) = true
  · rw [if_pos Wk] at h
    cases Sk : S k with
    | none =>
      rw [Sk] at h
      obtain ⟨v, hv, h⟩ := h
      unfold wpR at h
      rw [hi] at h
      simp only at h
      rw [wi] at h
      by_cases Wi : Region.wanted oi (yielded ops a.tmps) = true
      · rw [if_pos Wi] at h ⊢
        cases Si : S i with
        | none =>
          rw [Si] at h
          obtain ⟨u, hu, h⟩ := h
          refine ⟨u, fun w hw => by rw [← ei v]; exact hu w hw, ?_⟩
          unfold wpR
          rw [hk]
          simp only
          rw [wk, if_pos Wk, Sk]
          exact ⟨v, fun w hw => by rw [ek u]; exact hv w hw, by rw [← pc]; exact h⟩
        | some s =>
          rw [Si] at h
          obtain ⟨hs, h⟩ := h
          refine ⟨stepR_move (ei v).symm (put_size _ _ _).symm (fun _ _ _ he => he) hs, fun y => ?_⟩
          unfold wpR
          rw [hk]
          simp only
          rw [wk, if_pos Wk, Sk]
          exact ⟨v, fun w hw => by rw [ek]; exact hv w hw, by rw [← pc]; exact h y⟩
      · rw [if_neg Wi] at h ⊢
        unfold wpR
        rw [hk]
        simp only
        rw [wk, if_pos Wk, Sk]
        exact ⟨v, fun w hw => by rw [ek]; exact hv w hw, by rw [← pc]; exact h⟩
    | some s =>
      rw [Sk] at h
      obtain ⟨hs, h⟩ := h
      obtain ⟨x0⟩ := s.ne
      by_cases Wi : Region.wanted oi (yielded ops a.tmps) = true
      · rw [if_pos Wi]
        cases Si : S i with
        | none =>
          have hx : ∀ x, ∃ v, (∀ w, C w → (execOp a.eval oi).run P w = .ok (.value v) w) ∧ wpR P md ops Q C S L r (envS E k (s.F x)) ((a.put ok.dst (s.f x)).put oi.dst v) := fun x => by
            have h := h x
            unfold wpR at h
            rw [hi] at h
            simp only at h
            rw [wi, if_pos Wi, Si] at h
            obtain ⟨v, hv, h⟩ := h
            exact ⟨v, fun w hw => by rw [← ei (s.f x)]; exact hv w hw, h⟩
          obtain ⟨v, hv, _⟩ := hx x0
          refine ⟨v, hv, ?_⟩
          unfold wpR
          rw [hk]
          simp only
          rw [wk, if_pos Wk, Sk]
          refine ⟨stepR_move (ek v) (put_size _ _ _) (fun _ _ _ he => he) hs, fun x => ?_⟩
          obtain ⟨v', hv', h'⟩ := hx x
          obtain ⟨w, hw⟩ := hC
          have e := (hv w hw).symm.trans (hv' w hw)
          injection e with e _
          injection e with e
          rw [← pc, e]
          exact h'
        | some t =>
          have hx : ∀ x, stepR P ops md Q C (envS E k (s.F x)) i oi (a.put ok.dst (s.f x)) t ∧ ∀ y, wpR P md ops Q C S L r (envS (envS E k (s.F x)) i (t.F y)) ((a.put ok.dst (s.f x)).put oi.dst (t.f y)) := fun x => by
            have h := h x
            unfold wpR at h
            rw [hi] at h
            simp only at h
            rw [wi, if_pos Wi, Si] at h
            exact h
          refine ⟨stepR_move (ei (s.f x0)).symm (put_size _ _ _).symm (Ek s x0) (hx x0).1, fun y => ?_⟩
          unfold wpR
          rw [hk]
          simp only
          rw [wk, if_pos Wk, Sk]
          refine ⟨stepR_move (ek _) (put_size _ _ _) (Ei' t y) hs, fun x => ?_⟩
          rw [← pc, ← envS_comm E hne]
          exact (hx x).2 y
      · rw [if_neg Wi]
        unfold wpR
        rw [hk]
        simp only
        rw [wk, if_pos Wk, Sk]
        refine ⟨stepR_move (ek _) (put_size _ _ _) (fun _ _ _ he => he) hs, fun x => ?_⟩
        have h := h x
        unfold wpR at h
        rw [hi] at h
        simp only at h
        rw [wi, if_neg Wi] at h
        rw [← pc]
        exact h
  · rw [if_neg Wk] at h
    unfold wpR at h
    rw [hi] at h
    simp only at h
    rw [wi] at h
    by_cases Wi : Region.wanted oi (yielded ops a.tmps) = true
    · rw [if_pos Wi] at h ⊢
      cases Si : S i with
      | none =>
        rw [Si] at h
        obtain ⟨u, hu, h⟩ := h
        refine ⟨u, fun w hw => by rw [← ei undef]; exact hu w hw, ?_⟩
        unfold wpR
        rw [hk]
        simp only
        rw [wk, if_neg Wk, ← pc]
        exact h
      | some s =>
        rw [Si] at h
        obtain ⟨hs, h⟩ := h
        refine ⟨stepR_move (ei undef).symm (put_size _ _ _).symm (fun _ _ _ he => he) hs, fun y => ?_⟩
        unfold wpR
        rw [hk]
        simp only
        rw [wk, if_neg Wk, ← pc]
        exact h y
    · rw [if_neg Wi] at h ⊢
      unfold wpR
      rw [hk]
      simp only
      rw [wk, if_neg Wk, ← pc]
      exact h
theorem wpR_cons {k : Nat} {r r' : List Nat} {E : Nat → World → Prop} {a : Act} (hr : ∀ E a, wpR P md ops Q C S L r E a → wpR P md ops Q C S L r' E a) (h : wpR P md ops Q C S L (k :: r) E a) : wpR P md ops Q C S L (k :: r') E a := by
  unfold wpR at h ⊢
  cases hk : ops[k]? with
  | none => rw [hk] at h; exact h
  | some o =>
    rw [hk] at h
    simp only at h ⊢
    split
    · rename_i hw
      rw [if_pos hw] at h
      cases hS : S k with
      | none => rw [hS] at h; obtain ⟨v, h1, h2⟩ := h; exact ⟨v, h1, hr _ _ h2⟩
      | some s => rw [hS] at h; exact ⟨h.1, fun x => hr _ _ (h.2 x)⟩
    · rename_i hw
      rw [if_neg hw] at h
      exact hr _ _ h
/-- Its value hangs on no world. -/
def pureO (o : Oper) : Bool := match o.op with
  | .move _ | .assign _ | .extract .. => true
  | _ => false
theorem pureO_run {o : Oper} {v : Value} {ρ : Operand → Value} {w0 : World} (h : pureO o = true) (hr : (execOp ρ o).run P w0 = .ok (.value v) w0) : ∀ w, (execOp ρ o).run P w = .ok (.value v) w := by
  intro w
  unfold pureO at h
  unfold execOp at hr ⊢
  cases ho : o.op <;> rw [ho] at h hr <;> first | (cases h; done) | skip
  all_goals simp only [Sem.run_bind, Sem.run_pure] at hr ⊢
  all_goals first
    | (injection hr with e _; rw [e])
    | skip
  rename_i t ix
  unfold Instr.extract at hr ⊢
  split at hr
  · rename_i vs hv
    split at hr
    · rename_i x hx
      simp only [Sem.run_pure, Result.andThen_ok] at hr
      injection hr with e _
      rw [← e]
      simp only [Sem.run_pure, Result.andThen_ok]
    · exact absurd hr (by simp [stuck, Result.andThen])
  · exact absurd hr (by simp [stuck, Result.andThen])
/-- The text's order is one of the orders; two operations of the head wait for one another or are apart. -/
def relH (md : Region.Mode) (ops : Array Oper) (hd : Nat → Bool) : Bool :=
  Region.noSelect ops && (List.range ops.size).all fun k => !hd k || match ops[k]? with
    | none => false
    | some ok => (ok.after.all fun e => !Region.binds md e || (decide (e.on < k) && hd e.on)) && (List.range k).all fun j => !hd j || match ops[j]? with
      | none => false
      | some oj => Region.waitsFor md ops k j || oj.apart ops ok
/-- What is not of the head waits for all of it that hangs on the world, and is apart from the rest. -/
def tailH (md : Region.Mode) (ops : Array Oper) (hd : Nat → Bool) : Bool :=
  (List.range ops.size).all fun t => hd t || match ops[t]? with
    | none => false
    | some ot => (List.range ops.size).all fun k => !hd k || match ops[k]? with
      | none => false
      | some ok => bif pureO ok then Region.waitsFor md ops t k || ok.apart ops ot else trB md ops k 8 t
variable {hd : Nat → Bool}
theorem relH_at {k : Nat} (h : relH md ops hd = true) (hk : hd k = true) (hks : k < ops.size) : ∃ ok, ops[k]? = some ok ∧ (∀ e ∈ ok.after, Region.binds md e = true → e.on < k ∧ hd e.on = true) ∧ ∀ j, j < k → hd j = true → ∃ oj, ops[j]? = some oj ∧ (Region.waitsFor md ops k j = true ∨ oj.apart ops ok = true) := by
  simp only [relH, Bool.and_eq_true] at h
  have h1 := List.all_eq_true.1 h.2 k (List.mem_range.2 hks)
  rw [hk] at h1
  cases ho : ops[k]? with
  | none => rw [ho] at h1; cases h1
  | some ok =>
    rw [ho] at h1
    simp only [Bool.not_true, Bool.false_or, Bool.and_eq_true] at h1
    refine ⟨ok, rfl, fun e he hb => ?_, fun j hj hdj => ?_⟩
    · have := Array.all_eq_true'.1 h1.1 e he
      rw [hb] at this
      simpa using this
    · have h2 := List.all_eq_true.1 h1.2 j (List.mem_range.2 hj)
      rw [hdj] at h2
      cases hj : ops[j]? with
      | none => rw [hj] at h2; cases h2
      | some oj =>
        rw [hj] at h2
        simp only [Bool.not_true, Bool.false_or, Bool.or_eq_true] at h2
        exact ⟨oj, rfl, h2⟩
theorem relH_sel (h : relH md ops hd = true) : Region.noSelect ops = true := by simp only [relH, Bool.and_eq_true] at h; exact h.1
theorem tailH_at {t k : Nat} {ot ok : Oper} (h : tailH md ops hd = true) (ht : hd t = false) (hot : ops[t]? = some ot) (hk : hd k = true) (hok : ops[k]? = some ok) : (pureO ok = true → Region.waitsFor md ops t k = true ∨ ok.apart ops ot = true) ∧ (pureO ok = false → trB md ops k 8 t = true) := by
  have h1 := List.all_eq_true.1 h t (List.mem_range.2 (Array.getElem?_eq_some_iff.1 hot).1)
  rw [ht, hot] at h1
  simp only [Bool.false_or] at h1
  have h2 := List.all_eq_true.1 h1 k (List.mem_range.2 (Array.getElem?_eq_some_iff.1 hok).1)
  rw [hk, hok] at h2
  simp only [Bool.not_true, Bool.false_or] at h2
  refine ⟨fun hp => ?_, fun hp => ?_⟩
  · rw [hp] at h2; simpa using h2
  · rw [hp] at h2; simpa using h2
theorem waitsFor_lt {k j : Nat} (h : relH md ops hd = true) (hk : hd k = true) (hw : Region.waitsFor md ops k j = true) : j < k := by
  obtain ⟨o, ho, e, he, hb, rfl⟩ := Region.waitsFor_spec hw
  obtain ⟨ok, hok, h1, _⟩ := relH_at h hk (Array.getElem?_eq_some_iff.1 ho).1
  obtain rfl : o = ok := Option.some.inj (ho.symm.trans hok)
  exact (h1 e he hb).1
theorem ready_waits {i k : Nat} {listed : Array Bool} (hi : i ∈ Region.ready md ops listed) (hk : listed.getD k true = false) : Region.waitsFor md ops i k = false := by
  cases h : Region.waitsFor md ops i k with
  | false => rfl
  | true =>
    obtain ⟨_, oi, hoi, hall⟩ := mem_ready.1 hi
    obtain ⟨o, ho, e, he, hb, rfl⟩ := Region.waitsFor_spec h
    obtain rfl : o = oi := Option.some.inj (ho.symm.trans hoi)
    have := hall e he hb
    rw [getD_both hk] at this
    cases this
theorem wpR_front {i : Nat} {listed : Array Bool} (hB : relH md ops hd = true) (hi : i ∈ Region.ready md ops listed) (hin : hd i = true) (hC : ∃ w, C w) : ∀ (l1 l2 : List Nat) (E : Nat → World → Prop) (a : Act),
    (∀ k ∈ l1, k < i ∧ hd k = true ∧ listed.getD k true = false) → wpR P md ops Q C S L (l1 ++ i :: l2) E a → wpR P md ops Q C S L (i :: (l1 ++ l2)) E a
  | [], _, _, _, _, h => h
  | k :: l1, l2, E, a, hl, h => by
    have h1 : wpR P md ops Q C S L (k :: i :: (l1 ++ l2)) E a := wpR_cons (fun E a => wpR_front hB hi hin hC l1 l2 E a fun j hj => hl j (List.mem_cons_of_mem _ hj)) h
    obtain ⟨hki, hkd, hun⟩ := hl k (List.mem_cons_self ..)
    have his : i < ops.size := by
      obtain ⟨_, oi, hoi, _⟩ := mem_ready.1 hi
      exact (Array.getElem?_eq_some_iff.1 hoi).1
    obtain ⟨oi, hoi, _, hj⟩ := relH_at hB hin his
    obtain ⟨ok, hok, hap⟩ := hj k hki hkd
    have hsel := Region.noSelect_spec (relH_sel hB)
    have hik := ready_waits hi hun
    have hap : ok.apart ops oi = true := hap.resolve_left (by rw [hik]; simp)
    have hki' : Region.waitsFor md ops k i = false := by
      cases hw : Region.waitsFor md ops k i with
      | false => rfl
      | true => have := waitsFor_lt hB hkd hw; omega
    exact wpR_swap hok hoi hap (fun cs b => hsel k ok cs b hok) (fun cs b => hsel i oi cs b hoi) (by omega) hik hki' hC h1
/-- Behind the head the tail comes. -/
theorem wpAny_of_R {g : Nat} (hB : relH md ops hd = true) (htail : tailH md ops hd = true) (hC : ∀ w w', C w → Below w.heap.size w w' → C w') (hS : ∀ k o, ops[k]? = some o → pureO o = true → S k = none)
    (hfin : ∀ listed a E w, listed.size = ops.size → (∀ k, k < ops.size → listed.getD k true = hd k) → L E a → C w → (∀ j, E j w) → wpAny P md ops (NoPan Q) g listed a w) :
    ∀ (m : Nat) (rem : List Nat) (listed : Array Bool) (a : Act) (E : Nat → World → Prop) (w : World), rem.length = m → rem.Pairwise (· < ·) → listed.size = ops.size → (∀ k, k ∈ rem ↔ k < ops.size ∧ hd k = true ∧ listed.getD k true = false) → (∀ t, t < ops.size → hd t = false → listed.getD t true = false) → ClosedX md ops listed →
      C w → (∀ j, E j w) → (∀ j w w', Below w.heap.size w w' → E j w → E j w') → wpR P md ops Q C S L rem E a → wpAny P md ops (NoPan Q) (m + g) listed a w := by
  have hsel := Region.noSelect_spec (relH_sel hB)
  intro m
  induction m with
  | zero =>
    intro rem listed a E w hm _ hsz hrem htl _ hw hE _ h
    obtain rfl := List.eq_nil_of_length_eq_zero hm
    rw [Nat.zero_add]
    refine hfin listed a E w hsz (fun k hks => ?_) h hw hE
    cases hk : hd k with
    | false => exact htl k hks hk
    | true =>
      cases hh : listed.getD k true with
      | true => rfl
      | false => have := (hrem k).2 ⟨hks, hk, hh⟩; cases this
  | succ m ih =>
    intro rem listed a E w hm hp hsz hrem htl hcl hw hE hmono h
    rw [show m + 1 + g = (m + g) + 1 by omega]
    obtain ⟨k0, r0, rfl⟩ : ∃ k r, rem = k :: r := by
      cases rem with
      | nil => cases hm
      | cons k r => exact ⟨k, r, rfl⟩
    have hk0 := (hrem k0).1 (List.mem_cons_self ..)
    obtain ⟨ok, hok, hk1, _⟩ := relH_at hB hk0.2.1 hk0.1
    have hready : k0 ∈ Region.ready md ops listed := by
      refine mem_ready.2 ⟨hk0.2.2, ok, hok, fun e he hb => ?_⟩
      have hlt := hk1 e he hb
      cases hh : listed.getD e.on false with
      | true => rfl
      | false =>
        have hm' := (hrem e.on).2 ⟨by omega, hlt.2, getD_in (by omega) hh⟩
        rcases List.mem_cons.1 hm' with e' | hm'
        · omega
        · have := (List.pairwise_cons.1 hp).1 _ hm'
          omega
    -- the state behind an operation of the head
    have after : ∀ i l1 l2, i < ops.size → hd i = true → i ∈ Region.ready md ops listed → k0 :: r0 = l1 ++ i :: l2 → ∀ (a' : Act) (E' : Nat → World → Prop) (w' : World), C w' → (∀ j, E' j w') → (∀ j w w', Below w.heap.size w w' → E' j w → E' j w') → wpR P md ops Q C S L (l1 ++ l2) E' a' → wpAny P md ops (NoPan Q) (m + g) (listed.setIfInBounds i true) a' w' := by
      intro i l1 l2 his hin hi hsp a' E' w'
      rw [hsp] at hp hm
      have hlt1 : ∀ k ∈ l1, k < i := fun k hk => (List.pairwise_append.1 hp).2.2 k hk i (List.mem_cons_self ..)
      have hp' : (l1 ++ l2).Pairwise (· < ·) := hp.sublist (List.Sublist.append (List.Sublist.refl l1) (List.sublist_cons_self i l2))
      have hlen : (l1 ++ l2).length = m := by rw [List.length_append] at hm ⊢; rw [List.length_cons] at hm; omega
      have hnot : i ∉ l1 ++ l2 := fun hh => by
        rw [List.pairwise_append] at hp
        rcases List.mem_append.1 hh with hh | hh
        · exact absurd (hlt1 i hh) (Nat.lt_irrefl _)
        · exact absurd ((List.pairwise_cons.1 hp.2.1).1 i hh) (Nat.lt_irrefl _)
      have hrem' : ∀ k, k ∈ l1 ++ l2 ↔ k < ops.size ∧ hd k = true ∧ (listed.setIfInBounds i true).getD k true = false := fun k => by
        by_cases hki : k = i
        · subst hki
          refine ⟨fun hh => absurd hh hnot, fun hh => ?_⟩
          have hks : k < listed.size := by omega
          simp [hks] at hh
        · rw [getD_set_ne true (Ne.symm hki), ← hrem k, hsp]
          simp only [List.mem_append, List.mem_cons]
          constructor
          · rintro (hh | hh)
            · exact .inl hh
            · exact .inr (.inr hh)
          · rintro (hh | hh | hh)
            · exact .inl hh
            · exact absurd hh hki
            · exact .inr hh
      have htl' : ∀ t, t < ops.size → hd t = false → (listed.setIfInBounds i true).getD t true = false := fun t hts ht => by
        rw [getD_set_ne true (fun e => by rw [e, ht] at hin; cases hin)]; exact htl t hts ht
      exact ih (l1 ++ l2) (listed.setIfInBounds i true) a' E' w' hlen hp' (by simp; exact hsz) hrem' htl' (hcl.set hi)
    cases hpu : pureO ok with
    | true =>
      have h2 := h
      unfold wpR at h2
      rw [hok] at h2
      simp only at h2
      obtain ⟨v, hy, h3⟩ : ∃ v, Yields P ops ok v a ∧ wpR P md ops Q C S L r0 E (a.put ok.dst v) := by
        by_cases Wi : Region.wanted ok (yielded ops a.tmps) = true
        · rw [if_pos Wi, hS k0 ok hok hpu] at h2
          obtain ⟨v, hv, h2⟩ := h2
          exact ⟨v, .inl ⟨Wi, pureO_run hpu (hv w hw)⟩, h2⟩
        · rw [if_neg Wi] at h2
          exact ⟨undef, .inr ⟨by simpa using Wi, rfl⟩, h2⟩
      refine wpAny_first hok hsel (fun _ _ _ h => h) (m + g) listed a w (fun j oj hj hne hun hno => ?_) hready hy (after k0 [] r0 hk0.1 hk0.2.1 hready rfl _ E w hw hE hmono h3)
      have hjs : j < ops.size := (Array.getElem?_eq_some_iff.1 hj).1
      have hnw : Region.waitsFor md ops j k0 = false := by
        cases hw' : Region.waitsFor md ops j k0 with
        | false => rfl
        | true =>
          obtain ⟨o, ho, e, he, hb, heq⟩ := Region.waitsFor_spec hw'
          obtain rfl : o = oj := Option.some.inj (ho.symm.trans hj)
          exact absurd heq (hno e he hb)
      cases hdj : hd j with
      | true =>
        have hmem := (hrem j).2 ⟨hjs, hdj, hun⟩
        have hlt : k0 < j := by
          rcases List.mem_cons.1 hmem with e | hmem
          · exact absurd e hne
          · exact (List.pairwise_cons.1 hp).1 _ hmem
        obtain ⟨oj', hoj', _, hap⟩ := relH_at hB hdj hjs
        obtain rfl : oj' = oj := Option.some.inj (hoj'.symm.trans hj)
        obtain ⟨ok', hok', hap⟩ := hap k0 hlt hk0.2.1
        obtain rfl : ok' = ok := Option.some.inj (hok'.symm.trans hok)
        exact hap.resolve_left (by rw [hnw]; simp)
      | false =>
        exact ((tailH_at htail hdj hj hk0.2.1 hok).1 hpu).resolve_left (by rw [hnw]; simp)
    | false =>
      refine ⟨fun h0 => (by rw [h0] at hready; cases hready), fun i hi => ?_⟩
      have hun := (mem_ready.1 hi).1
      obtain ⟨_, oi, hoi, _⟩ := mem_ready.1 hi
      have his : i < ops.size := (Array.getElem?_eq_some_iff.1 hoi).1
      have hin : hd i = true := by
        cases hdi : hd i with
        | true => rfl
        | false =>
          exact absurd hi (trB_undone hcl hk0.2.2 8 i ((tailH_at htail hdi hoi hk0.2.1 hok).2 hpu)).2
      have hmem : i ∈ k0 :: r0 := (hrem i).2 ⟨his, hin, hun⟩
      obtain ⟨l1, l2, hsp⟩ := List.append_of_mem hmem
      have hlt1 : ∀ k ∈ l1, k < i ∧ hd k = true ∧ listed.getD k true = false := fun k hk => by
        have hpp := hp
        rw [hsp] at hpp
        have hm2 : k ∈ k0 :: r0 := by rw [hsp]; exact List.mem_append_left _ hk
        exact ⟨(List.pairwise_append.1 hpp).2.2 k hk i (List.mem_cons_self ..), ((hrem k).1 hm2).2⟩
      have h2 := h
      rw [hsp] at h2
      have h2 := wpR_front hB hi hin ⟨w, hw⟩ l1 l2 E a hlt1 h2
      have key := after i l1 l2 his hin hi hsp
      unfold wpR at h2
      rw [hoi] at h2
      simp only at h2
      unfold wpOp
      rw [hoi]
      simp only
      by_cases Wi : Region.wanted oi (yielded ops a.tmps) = true
      · rw [if_pos Wi] at h2 ⊢
        cases Si : S i with
        | none =>
          rw [Si] at h2
          obtain ⟨v, hv, h2⟩ := h2
          left
          unfold Oper.wp
          rw [hv w hw]
          exact key _ _ _ hw hE hmono h2
        | some s =>
          rw [Si] at h2
          obtain ⟨hs, h2⟩ := h2
          left
          refine Oper.wp_mono ?_ (hs w hw fun j _ => hE j)
          rintro a' w' ⟨x, rfl, hF, hb⟩
          refine key _ _ _ (hC _ _ hw hb) (fun j => ?_) (fun j w1 w2 hb' he => ?_) (h2 x)
          · unfold envS
            split
            · exact hF
            · exact hmono j _ _ hb (hE j)
          · unfold envS at he ⊢
            split
            · rename_i hj
              rw [if_pos hj] at he
              exact s.mono x _ _ hb' he
            · rename_i hj
              rw [if_neg hj] at he
              exact hmono j _ _ hb' he
      · rw [if_neg Wi] at h2 ⊢
        exact key _ _ _ hw hE hmono h2
end
/-- No pure operation among those with a specification. -/
def pureS (ops : Array Oper) (S : Nat → Option NSpec) : Prop := ∀ k o, ops[k]? = some o → pureO o = true → S k = none
def specs (l : List (Nat × NSpec)) (k : Nat) : Option NSpec := (l.find? fun x => x.1 == k).map (·.2)
def specsB (ops : Array Oper) (l : List Nat) : Bool := l.all fun k => match ops[k]? with
  | none => true
  | some o => !pureO o
theorem specs_pure {ops : Array Oper} {l : List (Nat × NSpec)} (h : specsB ops (l.map (·.1)) = true) : pureS ops (specs l) := by
  intro k o hk hp
  unfold specs
  cases hf : l.find? (fun x => x.1 == k) with
  | none => rfl
  | some x =>
    have h1 := List.find?_some hf
    have h2 := List.mem_of_find?_eq_some hf
    have h3 := List.all_eq_true.1 h x.1 (List.mem_map.2 ⟨x, h2, rfl⟩)
    have e : x.1 = k := by simpa using h1
    rw [e, hk] at h3
    simp only [hp] at h3
    cases h3
def relTailB (md : Region.Mode) (ops : Array Oper) (n : Nat) : Bool :=
  decide (n ≤ ops.size) && relH md ops (fun k => decide (k < n)) && tailH md ops (fun k => decide (k < n)) && Region.seqB md ops (ops.size - n) n (Array.replicate n true ++ Array.replicate (ops.size - n) false)
theorem wp_region_R {P : Program} {id : Nat} {Q : Exit → Act → World → Prop} {a : Act} {w : World} {l : List Oper} (n : Nat) (S : Nat → Option NSpec) (hm : P.follows .mixedOrders = true) (hB : relTailB .any l.toArray n = true) (hS : pureS l.toArray S)
    (h : wpR P .any l.toArray Q (fun w' => ∃ u, w' = ov w u) S (fun E a' => ∀ w', Below w.heap.size w w' → (∀ j, E j w') → wpList P l.toArray (NoPan Q) (l.drop n) a' w') (List.range n) (fun _ _ => True) a) : (Code.region id l.toArray true).wp P Q a w := by
  simp only [relTailB, Bool.and_eq_true, decide_eq_true_eq] at hB
  obtain ⟨⟨⟨hn, hR⟩, htl⟩, hseq⟩ := hB
  refine Code.wp_mono NoPan.imp (wp_region_any hm ?_)
  have hdl : (l.drop n).length = l.toArray.size - n := by simp
  have := wpAny_of_R (P := P) (Q := Q) (md := .any) (C := fun w' => ∃ u, w' = ov w u) (S := S) (g := (l.drop n).length) hR htl (fun w1 w2 ⟨u, hu⟩ hb => by
      subst hu
      exact ⟨w2, ov_of ((ov_below w u).trans (hb.mono (ov_below w u).size))⟩) hS
    (L := fun E a' => ∀ w', Below w.heap.size w w' → (∀ j, E j w') → wpList P l.toArray (NoPan Q) (l.drop n) a' w')
    (fun listed a' E w' hsz hall hL ⟨u, hu⟩ hE => by
      have hT : listed = Array.replicate n true ++ Array.replicate (l.toArray.size - n) false := by
        apply Array.ext_getElem?
        intro j
        rw [Array.getElem?_append, Array.size_replicate]
        by_cases hjs : j < l.toArray.size
        · have hjl : j < listed.size := by omega
          have h1 := hall j hjs
          rw [Array.getD_eq_getD_getElem?, Array.getElem?_eq_getElem hjl, Option.getD_some] at h1
          rw [Array.getElem?_eq_getElem hjl, h1]
          by_cases hj : j < n
          · rw [if_pos hj, Array.getElem?_replicate, if_pos hj, decide_eq_true hj]
          · rw [if_neg hj, Array.getElem?_replicate, if_pos (by omega), decide_eq_false hj]
        · rw [Array.getElem?_eq_none (by omega), if_neg (by omega), Array.getElem?_replicate, if_neg (by omega)]
      rw [hT]
      refine wpAny_of_seq (l.drop n) n _ a' w' (fun j => by simp [List.getElem?_drop]) (by rw [hdl]; exact hseq) ?_
      subst hu
      exact hL _ (ov_below w u) hE)
    n (List.range n) (Array.replicate l.toArray.size false) a (fun _ _ => True) w.drew (by simp) List.pairwise_lt_range (by simp) (fun k => by
      rw [List.mem_range, decide_eq_true_eq]
      refine ⟨fun hk => ⟨by omega, hk, getD_in (by rw [Array.size_replicate]; omega) (getD_replicate_false _ _)⟩, fun hk => hk.2.1⟩)
    (fun t hts _ => getD_in (by rw [Array.size_replicate]; exact hts) (getD_replicate_false _ _)) (fun j oj _ hl => (by rw [getD_replicate_false] at hl; cases hl))
    ⟨w.drew, ov_of ((Below.refl _ _).drew)⟩ (fun _ => trivial) (fun _ _ _ _ _ => trivial) h
  rw [hdl, show n + (l.toArray.size - n) = l.toArray.size by omega] at this
  exact this
/-- One operation (a store) comes behind all that hangs on the world; what hangs on none may come behind it. -/
def relStB (md : Region.Mode) (ops : Array Oper) (t : Nat) : Bool :=
  decide (t < ops.size) && relH md ops (fun k => !(k == t)) && tailH md ops (fun k => !(k == t)) && decide (Region.ready md ops ((Array.replicate ops.size true).setIfInBounds t false) = [t]) && (Region.ready md ops (Array.replicate ops.size true)).isEmpty
/-! ### The walk over the operations themselves -/
def rOp (o : Oper) : Bool := match o.op with
  | .move _ | .load .. | .binOp .. | .unOp .. | .convert .. | .fieldAddr .. | .field .. | .indexAddr .. | .index .. | .build .. | .slice .. | .extract .. | .assign .. | .pick .. => true
  | _ => false
theorem rOp_run {P : Program} {o : Oper} (h : rOp o = true) (ρ : Operand → Value) : ∃ s : Sem Value, ∀ w, (execOp ρ o).run P w = (s.run P w).andThen fun v w' => .ok (.value v) w' := by
  unfold rOp at h
  have hv : ∀ s : Sem Value, ∀ w, (do let x ← s; pure (Next.value x) : Sem Next).run P w = (s.run P w).andThen fun v w' => .ok (.value v) w' := fun s w => by
    simp only [Sem.run_bind, Sem.run_pure]
  unfold execOp
  cases ho : o.op <;> rw [ho] at h <;> first | (exact ⟨_, fun w => hv _ w⟩) | (cases h; done) | skip
  rotate_right
  · rename_i c x y
    refine ⟨do let b ← asBool (ρ c); pure (if b = true then ρ x else ρ y), fun w => ?_⟩
    simp only [Sem.run_bind, Sem.run_pure]
    cases (asBool (ρ c)).run P w <;> rfl
  all_goals first | (exact ⟨pure _, fun w => rfl⟩) | (simp only [Sem.run_pure]; exact ⟨pure _, fun w => by simp only [Sem.run_pure, Result.andThen_ok]⟩)
section
variable {P : Program} {ops : Array Oper} {Q : Exit → Act → World → Prop} {md : Region.Mode} {C : World → Prop} {S : Nat → Option NSpec} {L : (Nat → World → Prop) → Act → Prop}
theorem run_of_quiet {o : Oper} {v : Value} {a : Act} (ho : rOp o = true) (h : ∀ w, C w → o.quietAt P a C w v) : ∀ w, C w → (execOp a.eval o).run P w = .ok (.value v) w := fun w hw => by
  have h1 := h w hw
  unfold Oper.quietAt at h1
  obtain ⟨s, hs⟩ := rOp_run (P := P) ho a.eval
  rw [hs w] at h1 ⊢
  cases hr : s.run P w with
  | ok x w' =>
    rw [hr] at h1
    obtain ⟨e1, e2⟩ : w' = w ∧ x = v := h1
    rw [e1, e2]; rfl
  | halt x w' =>
    rw [hr] at h1
    exact (h1 : False).elim
def wpRL (P : Program) (md : Region.Mode) (ops : Array Oper) (Q : Exit → Act → World → Prop) (C : World → Prop) (S : Nat → Option NSpec) (L : (Nat → World → Prop) → Act → Prop) (l : List Oper) (k : Nat) (E : Nat → World → Prop) (a : Act) : Prop :=
  (∀ j, j < l.length → l[j]? = ops[k + j]?) → wpR P md ops Q C S L (List.range' k l.length) E a
theorem wpRL_nil {k : Nat} {E : Nat → World → Prop} {a : Act} (h : L E a) : wpRL P md ops Q C S L [] k E a := fun _ => h
theorem wpRL_chunk (m : Nat) {l : List Oper} {k : Nat} {E : Nat → World → Prop} {a : Act} (hB : ((l.take m).all rOp && (List.range' k m).all fun i => (S i).isNone) = true)
    (h : wpQuiet P ops C (fun a' => wpRL P md ops Q C S L (l.drop m) (k + m) E a') (l.take m) a) : wpRL P md ops Q C S L l k E a := by
  induction m generalizing l k a with
  | zero =>
    have h' : wpRL P md ops Q C S L (l.drop 0) (k + 0) E a := h
    simpa using h'
  | succ m ih =>
    cases l with
    | nil =>
      intro _
      have h' : wpRL P md ops Q C S L [] (k + (m + 1)) E a := h
      exact h' (fun j hj => absurd hj (by simp))
    | cons o r =>
      intro hl
      simp only [List.take_succ_cons, List.all_cons, Bool.and_eq_true, List.range'_succ, List.drop_succ_cons] at hB h
      obtain ⟨⟨ho, hr⟩, hk, hS⟩ := hB
      have h0 : ops[k]? = some o := by simpa using (hl 0 (by simp)).symm
      have hSk : S k = none := by simpa using hk
      rw [List.length_cons, List.range'_succ]
      have hl' : ∀ j, j < r.length → r[j]? = ops[k + 1 + j]? := fun j hj => by
        have := hl (j + 1) (by simp; omega)
        simpa [Nat.add_assoc, Nat.add_comm 1 j] using this
      have go : ∀ a', wpQuiet P ops C (fun a' => wpRL P md ops Q C S L (r.drop m) (k + (m + 1)) E a') (r.take m) a' → wpR P md ops Q C S L (List.range' (k + 1) r.length) E a' := fun a' h' =>
        ih (by simp only [Bool.and_eq_true]; exact ⟨hr, hS⟩) (by rw [show k + 1 + m = k + (m + 1) by omega]; exact h') hl'
      unfold wpR
      rw [h0]
      simp only
      unfold wpQuiet at h
      by_cases hw : Region.wanted o (yielded ops a.tmps) = true
      · rw [if_pos hw] at h ⊢
        rw [hSk]
        obtain ⟨v, hv, hK⟩ := h
        exact ⟨v, run_of_quiet ho hv, go _ hK⟩
      · rw [if_neg hw] at h ⊢
        exact go _ h
theorem wpRL_skip {o : Oper} {r : List Oper} {k : Nat} {E : Nat → World → Prop} {a : Act} (hw : Region.wanted o (yielded ops a.tmps) = false) (h : wpRL P md ops Q C S L r (k + 1) E (a.put o.dst undef)) : wpRL P md ops Q C S L (o :: r) k E a := by
  intro hl
  have h0 : ops[k]? = some o := by simpa using (hl 0 (by simp)).symm
  rw [List.length_cons, List.range'_succ]
  unfold wpR
  rw [h0]
  simp only
  rw [if_neg (by rw [hw]; decide)]
  exact h fun j hj => by
    have := hl (j + 1) (by simp; omega)
    simpa [Nat.add_assoc, Nat.add_comm 1 j] using this
theorem wpRL_call {o : Oper} {r : List Oper} {k : Nat} {E : Nat → World → Prop} {a : Act} {s : NSpec} (hS : S k = some s) (hw : Region.wanted o (yielded ops a.tmps) = true)
    (hstep : ∀ w, C w → (∀ j, Region.waitsFor md ops k j = true → E j w) → ∀ K : Act → World → Prop, (∀ x w', s.F x w' → Below w.heap.size w w' → K (a.put o.dst (s.f x)) w') → o.wp P a w K (NoPan Q))
    (h : ∀ x, wpRL P md ops Q C S L r (k + 1) (envS E k (s.F x)) (a.put o.dst (s.f x))) : wpRL P md ops Q C S L (o :: r) k E a := by
  intro hl
  have h0 : ops[k]? = some o := by simpa using (hl 0 (by simp)).symm
  rw [List.length_cons, List.range'_succ]
  unfold wpR
  rw [h0]
  simp only
  rw [if_pos hw, hS]
  refine ⟨stepR_of hstep, fun x => h x fun j hj => ?_⟩
  have := hl (j + 1) (by simp; omega)
  simpa [Nat.add_assoc, Nat.add_comm 1 j] using this
end
theorem wpRL_callB {P : Program} {ops : Array Oper} {Q : Exit → Act → World → Prop} {md : Region.Mode} {w0 : World} {S : Nat → Option NSpec} {L : (Nat → World → Prop) → Act → Prop} {o : Oper} {r : List Oper} {k : Nat} {E : Nat → World → Prop} {a : Act} {s : NSpec} (hS : S k = some s) (hw : Region.wanted o (yielded ops a.tmps) = true)
    (hstep : ∀ w, Below w0.heap.size w0 w → (∀ j, Region.waitsFor md ops k j = true → E j w) → ∀ K : Act → World → Prop, (∀ x w', s.F x w' → Below w.heap.size w w' → K (a.put o.dst (s.f x)) w') → o.wp P a w K (NoPan Q))
    (h : ∀ x, wpRL P md ops Q (fun w' => ∃ u, w' = ov w0 u) S L r (k + 1) (envS E k (s.F x)) (a.put o.dst (s.f x))) : wpRL P md ops Q (fun w' => ∃ u, w' = ov w0 u) S L (o :: r) k E a :=
  wpRL_call hS hw (fun w ⟨u, hu⟩ hE => hstep w (by rw [hu]; exact ov_below _ _) hE) h
def detS (v : Value) : NSpec := ⟨Unit, ⟨()⟩, fun _ => v, fun _ _ => True, fun _ _ _ _ h => h⟩
theorem wp_region_RL {P : Program} {id : Nat} {Q : Exit → Act → World → Prop} {a : Act} {w : World} {l : List Oper} (n : Nat) (S : List (Nat × NSpec)) (hm : P.follows .mixedOrders = true) (hB : relTailB .any l.toArray n = true) (hS : specsB l.toArray (S.map (·.1)) = true)
    (h : wpRL P .any l.toArray Q (fun w' => ∃ u, w' = ov w u) (specs S) (fun E a' => ∀ w', Below w.heap.size w w' → (∀ j, E j w') → wpList P l.toArray (NoPan Q) (l.drop n) a' w') (l.take n) 0 (fun _ _ => True) a) : (Code.region id l.toArray true).wp P Q a w := by
  have hn : n ≤ l.length := by
    have hB' := hB
    simp only [relTailB, Bool.and_eq_true, decide_eq_true_eq] at hB'
    simpa using hB'.1.1.1
  have hlen : (l.take n).length = n := by simp; omega
  have h' := h fun j hj => by
    rw [hlen] at hj
    simp [hj]
  rw [hlen, ← List.range_eq_range'] at h'
  exact wp_region_R n (specs S) hm hB (specs_pure hS) h'
/-! ### A call, its act left as it is -/
theorem wp_callF {P : Program} {g : FuncId} {xs : Array Operand} {ats : Array TypeId} {o : Oper} {a : Act} {w : World} {K : Act → World → Prop} {Q : Exit → Act → World → Prop} {vals : Array Value} (ho : o.op = .call { callee := .value (.func g), args := xs, argTypes := ats }) (eg : Go.Proofs.Enters P g) (hv : xs.map a.eval = vals)
    (h : Calls P g vals w fun e w' => ∃ v, e = .returned v ∧ K (a.put o.dst v) w') : o.wp P a w K Q := by
  subst hv
  obtain ⟨dst, op, ty, pos, after, guard⟩ := o
  simp only at ho
  subst ho
  unfold Oper.wp
  rw [execOp_call_go, show (#[] ++ xs.map a.eval ++ #[] : Array Value) = xs.map a.eval by simp, eg]
  exact Calls.mono h fun e w' ⟨v, he, hk⟩ => by subst he; exact hk
theorem wp_lenS {P : Program} {x : Operand} {t e : TypeId} {o : Oper} {a : Act} {w : World} {K : Act → World → Prop} {Q : Exit → Act → World → Prop} {ad : Option Addr} {n c : Nat} (ho : o.op = .call { callee := .builtin .len, args := #[x], argTypes := #[t] }) (ht : P.underlying t = some (.slice e)) (hx : a.eval x = .slice ad n c)
    (h : K (a.put o.dst (.int .i64 n)) w) : o.wp P a w K Q := by
  obtain ⟨dst, op, ty, pos, after, guard⟩ := o
  simp only at ho
  subst ho
  unfold Oper.wp
  have hu := run_underlying ht w
  have key : ∀ ρ : Operand → Value, ρ x = .slice ad n c → (execOp ρ { dst, op := .call { callee := .builtin .len, args := #[x], argTypes := #[t] }, type := ty, pos, after, guard : Oper }).run P w = .ok (.value (.int .i64 n)) w := fun ρ hρ => by
    have hl : (Builtin.len_ #[t] ty #[.slice ad n c]).run P w = .ok (goInt n) w := by simp [Builtin.len_, hu]
    simp [go_sem, hρ, hl]
  have := key a.eval hx
  rw [this]
  exact h
/-! ### A region in the order of its text, operation by operation -/
section
variable {P : Program} {ops : Array Oper} {Q : Exit → Act → World → Prop} {w : World}
theorem wpList_chunk (m : Nat) {l : List Oper} {a : Act} (hB : (l.take m).all rOp = true)
    (h : wpQuiet P ops (fun w' => ∃ u, w' = ov w u) (fun a' => wpList P ops Q (l.drop m) a' w) (l.take m) a) : wpList P ops Q l a w := by
  induction m generalizing l a with
  | zero => exact h
  | succ m ih =>
    cases l with
    | nil => exact h
    | cons o r =>
      simp only [List.take_succ_cons, List.all_cons, Bool.and_eq_true, List.drop_succ_cons] at hB h
      unfold wpQuiet at h
      unfold wpList
      by_cases hw : Region.wanted o (yielded ops a.tmps) = true
      · rw [if_pos hw] at h ⊢
        obtain ⟨v, hv, hK⟩ := h
        left
        unfold Oper.wp
        rw [run_of_quiet hB.1 hv w ⟨w, ov_of (Below.refl _ _)⟩]
        exact ih hB.2 hK
      · rw [if_neg hw] at h ⊢
        exact ih hB.2 h
theorem wpList_callF {g : FuncId} {xs : Array Operand} {ats : Array TypeId} {o : Oper} {r : List Oper} {a : Act} {vals : Array Value} (hw : Region.wanted o (yielded ops a.tmps) = true) (ho : o.op = .call { callee := .value (.func g), args := xs, argTypes := ats }) (eg : Go.Proofs.Enters P g) (hv : xs.map a.eval = vals)
    (h : Calls P g vals w fun e w' => ∃ v, e = .returned v ∧ wpList P ops Q r (a.put o.dst v) w') : wpList P ops Q (o :: r) a w := by
  unfold wpList
  rw [if_pos hw]
  exact .inl (wp_callF ho eg hv h)
theorem wpList_lenS {x : Operand} {t e : TypeId} {o : Oper} {r : List Oper} {a : Act} {ad : Option Addr} {n c : Nat} (hw : Region.wanted o (yielded ops a.tmps) = true) (ho : o.op = .call { callee := .builtin .len, args := #[x], argTypes := #[t] }) (ht : P.underlying t = some (.slice e)) (hx : a.eval x = .slice ad n c)
    (h : wpList P ops Q r (a.put o.dst (.int .i64 n)) w) : wpList P ops Q (o :: r) a w := by
  unfold wpList
  rw [if_pos hw]
  exact .inl (wp_lenS ho ht hx h)
theorem wpList_skip {o : Oper} {r : List Oper} {a : Act} (hw : Region.wanted o (yielded ops a.tmps) = false) (h : wpList P ops Q r (a.put o.dst undef) w) : wpList P ops Q (o :: r) a w := by
  unfold wpList
  rw [if_neg (by rw [hw]; decide)]
  exact h
end
end Go.Proofs.Ytppccnjckiedlaa
/- Specifications of values that are rasters, for regions that draw their order; the full raster's validity. -/
namespace Go.Proofs.Ytppccnjckiedlaa
open Go.RowKit Go.Shelf Pl
set_option linter.unusedVariables false
set_option linter.unusedSimpArgs false
set_option maxRecDepth 20000

def rasS (L : List TA) : NSpec := ⟨Option Addr × Nat, ⟨(none, 0)⟩, fun x => .agg #[.slice x.1 L.length x.2], fun x w => RS (.slice x.1 L.length x.2) L w, fun _ _ _ hb h => h.below hb⟩
def tupS (L : List TA) (n : Int) : NSpec := ⟨Option Addr × Nat, ⟨(none, 0)⟩, fun x => .tuple #[.agg #[.slice x.1 L.length x.2], .int .i64 n], fun x w => RS (.slice x.1 L.length x.2) L w, fun _ _ _ hb h => h.below hb⟩
def gotS (L : List TA) (n : Int) : NSpec := ⟨Option Addr × Nat, ⟨(none, 0)⟩, fun x => .agg #[.slice x.1 L.length x.2, .int .i64 n], fun x w => RS (.slice x.1 L.length x.2) L w, fun _ _ _ hb h => h.below hb⟩
def ptrS (n : Nat) (t : TypeId) (cs : Array Value) : NSpec := ⟨Nat, ⟨0⟩, fun b => .pointer (some ⟨b, 0, none⟩), fun b w => n ≤ b ∧ AtB t w b cs, fun _ _ _ hb h => ⟨h.1, h.2.of_eq (hb.block _ h.2.lt)⟩⟩
theorem L_ofO (q : RawQ) (vL vT : Value) (L T : List Int) (w : World) (hL : RSE inE vL L w) (hLn : L.length ≤ 17592186044416) (hT : RSE inE vT T w) (hTn : T.length ≤ 17592186044416) :
    Calls Try.prog 15 #[.agg #[vL, .int .i64 q.at_, .int .i64 q.px, .int .i64 q.py, vT, .int .i64 q.how]] w fun e w' => ∃ a c, e = .returned (.agg #[.slice a (ofL q L T).length c]) ∧ RS (.slice a (ofL q L T).length c) (ofL q L T) w' ∧ Below w.heap.size w w' :=
  (L_of q vL vT L T w hL hLn hT hTn).mono fun e w' ⟨v', he, hr, hb⟩ => by
    obtain ⟨a, c, rfl, _⟩ := hr.len
    exact ⟨a, c, he, hr, hb⟩
theorem len_maxLen {n : Nat} (h : n ≤ 2000) : n ≤ maxLen := by unfold maxLen; omega
/-! ### The contracts at lists that are known to be valid; results told by another word -/
theorem P_ValidB (v : Value) (ls : List TA) (r : Bool) (w : World) (h : RS v ls w) (tk : TokL ls) (hn : ls.length ≤ maxLen) (e : validL ls = r) : Calls Try.prog 16 #[.agg #[v]] w fun e w' => e = .returned (.bool r) ∧ Below w.heap.size w w' := e ▸ P_Valid v ls w h tk hn
theorem R_EqualS (v u : Value) (ls : List TA) (w : World) (h : RS v ls w) (h' : RS u ls w) (tk : TokL ls) (hn : ls.length ≤ maxLen) : Calls Try.prog 30 #[.agg #[v], .agg #[u]] w fun e w' => e = .returned (.bool true) ∧ Below w.heap.size w w' := by
  have := R_Equal v u ls ls w h h' tk tk hn hn
  rw [eqL_refl] at this
  exact this
end Go.Proofs.Ytppccnjckiedlaa
/- Contract of gouacheref08.Near. -/
namespace Go.Proofs.Ytppccnjckiedlaa
open Go.RowKit Go.Shelf Pl
set_option linter.unusedVariables false
set_option linter.unusedSimpArgs false
set_option maxRecDepth 20000
def nearR (c : Rc) : Rc := ⟨c.x0 % 64 - 30, c.y0 % 64 - 30, c.x0 % 64 - 30 + 1 + c.x1 % 32, c.y0 % 64 - 30 + 1 + c.y1 % 32⟩
theorem nearR_bd (c : Rc) : -30 ≤ (nearR c).x0 ∧ (nearR c).x0 ≤ 33 ∧ -30 ≤ (nearR c).y0 ∧ (nearR c).y0 ≤ 33 ∧ (nearR c).x0 < (nearR c).x1 ∧ (nearR c).x1 ≤ (nearR c).x0 + 32 ∧ (nearR c).y0 < (nearR c).y1 ∧ (nearR c).y1 ≤ (nearR c).y0 + 32 := by
  unfold nearR
  simp only
  omega
set_option maxHeartbeats 1000000 in
theorem R_Near (c : Rc) (w : World) : Calls Try.prog 32 #[Rc.v c] w fun e w' => e = .returned (Rc.v (nearR c)) ∧ Below w.heap.size w w' := by
  have B := Below.refl w.heap.size w
  obtain ⟨x0, y0, x1, y1⟩ := c
  have b1 := bits_and63 x0
  have b2 := bits_and63 y0
  have b3 := bits_and31 x1
  have b4 := bits_and31 y1
  simp only [Rc.v_A, rcA]
  go_enter Try.func32, Try.ntmps32
  go_wp2_with (first | (refine wpList_storeB (t := 64) rfl _ _ rfl _ rfl _ rfl r2 (by kernel_rfl) rfl (by simp [rcA, Value.oneCell']) ?_; clear r2; intro wn ht hcn hzn; have hsz := B.size; replace hzn := Nat.le_of_eq hzn.symm; replace B := Chg.below B hcn (by omega) B.size; (try replace q1 := q1.of_eq (hcn.block _ q1.lt (by omega))); have r2 := ht; clear ht; simp only [Act.put, putS]) | (refine wpList_loadAny (t := 3) rfl _ rfl _ _ _ rfl (run_load_int (q1.cell 0 rfl)) (by rfl) ?_; simp only [Act.put, putS]) | (refine wpList_loadAny (t := 3) rfl _ rfl _ _ _ rfl (run_load_int (q1.cell 1 rfl)) (by rfl) ?_; simp only [Act.put, putS]) | (refine wpList_loadAny (t := 3) rfl _ rfl _ _ _ rfl (run_load_int (q1.cell 2 rfl)) (by rfl) ?_; simp only [Act.put, putS]) | (refine wpList_loadAny (t := 3) rfl _ rfl _ _ _ rfl (run_load_int (q1.cell 3 rfl)) (by rfl) ?_; simp only [Act.put, putS]) | (have _ := q1; refine wpList_allocBk (t := 64) rfl _ (run_alloc_Rc _ _ rfl) ?_; intro b_r2 wn hle hge ht hbn hzn; have hsz := B.size; replace B := B.trans (hbn.mono (by omega)); have hln := Nat.lt_of_lt_of_eq (Nat.lt_succ_self _) hzn.symm; clear hzn; (try first | (have hlt := q1.lt; replace q1 := q1.of_eq (hbn.block _ (by omega))) | replace q1 := q1.below (hbn.mono hle)); (try first | (have hlt := r2.lt; replace r2 := r2.of_eq (hbn.block _ (by omega))) | replace r2 := r2.below (hbn.mono hle)); have r2 := ht; clear ht; simp only [Act.put, putS]) | (refine wpList_boxB (t := 64) rfl _ rfl _ rfl ?_; intro b_q1 wn hle hge ht hbn hzn; have hsz := B.size; replace B := B.trans (hbn.mono (by omega)); have hln := Nat.lt_of_lt_of_eq (Nat.lt_succ_self _) hzn.symm; clear hzn; (try first | (have hlt := q1.lt; replace q1 := q1.of_eq (hbn.block _ (by omega))) | replace q1 := q1.below (hbn.mono hle)); (try first | (have hlt := r2.lt; replace r2 := r2.of_eq (hbn.block _ (by omega))) | replace r2 := r2.below (hbn.mono hle)); have q1 := ht; clear ht; simp only [Act.put, putS]) | fail)
  refine bodyPost_ret (results_B (t := 64) rfl _ _ (b_r2) rfl r2 Try.isAgg64 (by kernel_rfl)) rfl ?_
  exact ⟨rfl, B⟩
@[go_sem] theorem run_field_a (p0 p1 p2 pa : Int) (w : World) : (Instr.field 37 (.agg #[.int .u8 p0, .int .u8 p1, .int .u8 p2, .int .u8 pa]) 3).run Try.prog w = .ok (.int .u8 pa) w := by kernel_rfl
end Go.Proofs.Ytppccnjckiedlaa
/- Pairs of integers as blocks; one byte of a tile stored; contracts of Set and Put with a result told. -/
namespace Go.Proofs.Ytppccnjckiedlaa
open Go.RowKit Go.Shelf Pl
set_option linter.unusedVariables false
set_option linter.unusedSimpArgs false
set_option maxRecDepth 20000
def i2 (a b : Int) (k : Nat) : Int := if k = 0 then a else b
theorem AtB.cellL {t : TypeId} {w : World} {b : Nat} {l : List Value} (h : AtB t w b l.toArray) (i : Nat) {v : Value} (hv : l[i]? = some v) : w.cell? ⟨b, i, none⟩ = some v := h.cell i (by simpa using hv)
theorem run_load_err {w : World} {b j : Nat} {n : Int} (h : w.cell? ⟨b, j, none⟩ = some (.int .i64 n)) : (Instr.loadAt 46 (.pointer (some ⟨b, j, none⟩))).run Try.prog w = .ok (.int .i64 n) w := by simp [go_sem, h]
theorem RS.chgT {v : Value} {ls : List TA} {b : Nat} {f : Nat → Px} {w w' : World} (h : RS v ls w) (hb : TileAt w b f) (hc : Chg b w w') : RS v ls w' :=
  RS.chg (t := 40) (cs := tileC f) h hb (by rw [size_tileC]; omega) hc
end Go.Proofs.Ytppccnjckiedlaa
/- Plain laws: how many tiles there are behind put; the full raster. -/
namespace Go.Proofs.Ytppccnjckiedlaa
open Go.RowKit Pl
set_option linter.unusedVariables false
set_option linter.unusedSimpArgs false
theorem srt_at {ls : List TA} (h : Srt ls) {i j : Nat} (hij : i < j) (hj : j < ls.length) : beforeA (aT ls i) (aT ls j) = true := by
  have hi : i < ls.length := Nat.lt_trans hij hj
  have e : ∀ k (hk : k < ls.length), aT ls k = ls[k] := fun k hk => by
    have := aT_at hk
    rw [List.getElem?_eq_getElem hk] at this
    exact (Option.some.inj this).symm
  rw [e i hi, e j hj]
  exact List.pairwise_iff_getElem.1 h i j hi hj hij
/-- The tile of the law: its first pixel opaque. -/
def limT (Ls : List Int) : Nat → Px := upd (madeT Ls) 0 ⟨0, 0, 3, 255⟩
def F24 : List TA := fullL 1024
end Go.Proofs.Ytppccnjckiedlaa
/- Plain: the pixels that Image makes are the raster's pixels, row by row. -/
namespace Go.Proofs.Ytppccnjckiedlaa
open Go.RowKit Pl
set_option linter.unusedVariables false
set_option linter.unusedSimpArgs false
/-- The pixel number j of a rectangle. -/
def widN (c : Rc) : Nat := (c.x1 - c.x0).toNat
def pxX (c : Rc) (j : Nat) : Int := c.x0 + ((j % widN c : Nat) : Int)
def pxY (c : Rc) (j : Nat) : Int := c.y0 + ((j / widN c : Nat) : Int)
def imgL (c : Rc) (ks : List TA) : List Px := (List.range (areaN c)).map fun j => getL ks (pxX c j) (pxY c j)
theorem area_wid {c : Rc} (hf : Fits c) : areaN c = widN c * (c.y1 - c.y0).toNat ∧ 0 < widN c := by
  have h1 := hf.h1
  have h2 := hf.h2
  obtain ⟨W, hW⟩ : ∃ W : Nat, c.x1 - c.x0 = (W : Int) := ⟨(c.x1 - c.x0).toNat, by omega⟩
  obtain ⟨H, hH⟩ : ∃ H : Nat, c.y1 - c.y0 = (H : Int) := ⟨(c.y1 - c.y0).toNat, by omega⟩
  unfold areaN widN
  rw [hW, hH, ← Int.natCast_mul, Int.toNat_natCast, Int.toNat_natCast, Int.toNat_natCast]
  exact ⟨rfl, by omega⟩
theorem px_in {c : Rc} (hf : Fits c) {j : Nat} (hj : j < areaN c) : hasR c (pxX c j) (pxY c j) = true := by
  obtain ⟨ea, hw⟩ := area_wid hf
  have hm := Nat.mod_lt j hw
  have hd : j / widN c < (c.y1 - c.y0).toNat := Nat.div_lt_of_lt_mul (by rw [← ea]; exact hj)
  rw [hasR_iff]
  unfold pxX pxY
  have hw' : widN c = (c.x1 - c.x0).toNat := rfl
  generalize j % widN c = u at hm ⊢
  generalize j / widN c = v at hd ⊢
  have := hf.h1
  have := hf.h2
  omega
/-- The place of a pixel in its tile. -/
def inT (x y : Int) : Nat := (8 * (y % 8) + x % 8).toNat
end Go.Proofs.Ytppccnjckiedlaa
/- Plain: a raster after pixel updates, by its pixels; grids of 32 times 32 pixels. -/
namespace Go.Proofs.Ytppccnjckiedlaa
open Go.RowKit Pl
set_option linter.unusedVariables false
set_option linter.unusedSimpArgs false
/-- A pixel update, as the law sends it. -/
structure Dt where
  x : Int
  y : Int
  p : Px
/-- All positions lie near the origin. -/
def Small (r : List TA) : Prop := ∀ e ∈ r, -2 ≤ e.x ∧ e.x ≤ 1 ∧ -2 ≤ e.y ∧ e.y ≤ 1
theorem cleanP_idem (p : Px) : cleanP (cleanP p) = cleanP p := by
  unfold cleanP
  split
  · split <;> rfl
  · rfl
section
variable {r : List TA} {X Y : Int} {p : Px} (hv : validL r = true) (hs : Small r) (hX : -16 ≤ X ∧ X ≤ 15) (hY : -16 ≤ Y ∧ Y ≤ 15)
end
/-- The raster after the first k updates. -/
def dotX (d : Dt) : Int := d.x % 32 - 16
def dotY (d : Dt) : Int := d.y % 32 - 16
def dAt (l : List Dt) (k : Nat) : Dt := l.getD k ⟨0, 0, Px.zero⟩
def dotR (l : List Dt) : Nat → List TA
  | 0 => []
  | k + 1 => setR (dotR l k) (dotX (dAt l k)) (dotY (dAt l k)) (dAt l k).p
/-- The pixels wanted. -/
def dotW (l : List Dt) : Nat → Nat → Px
  | 0 => fun _ => Px.zero
  | k + 1 => upd (dotW l k) (((dAt l k).y % 32).toNat * 32 + ((dAt l k).x % 32).toNat) (cleanP (dAt l k).p)
/-! ### Grids -/
def gridC (f : Nat → Px) : Array Value := Array.ofFn (n := 4096) fun k => pxC (f (k.val / 4)) (k.val % 4)
end Go.Proofs.Ytppccnjckiedlaa
/- The pixel at a column and a row of a rectangle. -/
namespace Go.Proofs.Ytppccnjckiedlaa
open Go.RowKit Go.Shelf Pl
end Go.Proofs.Ytppccnjckiedlaa
/- Plain: the positions of a rectangle's tiles; what Paste computes. -/
namespace Go.Proofs.Ytppccnjckiedlaa
open Go.RowKit Pl
set_option linter.unusedVariables false
set_option linter.unusedSimpArgs false
/-- The rectangle of the tiles that a rectangle meets. -/
def tlR (c : Rc) : Rc := ⟨c.x0 / 8, c.y0 / 8, (c.x1 - 1) / 8 + 1, (c.y1 - 1) / 8 + 1⟩
theorem tl_fits {c : Rc} (h : Fits c) : Fits (tlR c) := by
  obtain ⟨a1, a2, a3, a4, a5, a6, a7, a8⟩ := h
  refine ⟨?_, ?_, ?_, ?_, ?_, ?_, ?_, ?_⟩ <;> (unfold tlR; simp only; omega)
def tlN (c : Rc) : Nat := areaN (tlR c)
theorem tlN_le {c : Rc} (h : Fits c) : tlN c ≤ 1089 := by
  have e := (area_wid (tl_fits h)).1
  obtain ⟨a1, a2, a3, a4, a5, a6, a7, a8⟩ := h
  unfold tlN
  rw [e]
  have h1 : widN (tlR c) ≤ 33 := by unfold widN tlR; simp only; omega
  have h2 : ((tlR c).y1 - (tlR c).y0).toNat ≤ 33 := by unfold tlR; simp only; omega
  exact Nat.mul_le_mul h1 h2
def posP (c : Rc) (k : Nat) : Int × Int := (pxX (tlR c) k, pxY (tlR c) k)
def posL (c : Rc) : List (Int × Int) := (List.range (tlN c)).map (posP c)
theorem posL_len (c : Rc) : (posL c).length = tlN c := by unfold posL; rw [List.length_map, List.length_range]
theorem posL_at (c : Rc) {k : Nat} (hk : k < tlN c) : (posL c)[k]? = some (posP c k) := by
  unfold posL
  rw [List.getElem?_map, List.getElem?_range hk]
  rfl
theorem posL_take (c : Rc) {k : Nat} (hk : k < tlN c) : (posL c).take (k + 1) = (posL c).take k ++ [posP c k] := by
  rw [List.take_add_one, posL_at c hk]
  rfl
theorem posP_in {c : Rc} (hf : Fits c) {k : Nat} (hk : k < tlN c) : withinB (posP c k).1 (posP c k).2 = true := by
  have h := (hasR_iff _ _ _).1 (px_in (tl_fits hf) hk)
  have h3 := hf.h3
  have h4 := hf.h4
  have h5 := hf.h5
  have h6 := hf.h6
  unfold posP
  refine decide_eq_true ?_
  unfold tlR at h
  simp only at h ⊢
  unfold tlR
  omega
theorem posL_in {c : Rc} (hf : Fits c) : ∀ p ∈ posL c, withinB p.1 p.2 = true := fun p hp => by
  obtain ⟨k, hk, rfl⟩ := List.mem_map.1 hp
  exact posP_in hf (List.mem_range.1 hk)
/-! ### Pasting -/
def pixL (c : Rc) (L : List Px) (X Y : Int) : Px := L.getD (idxI c X Y).toNat Px.zero
def pstP (c : Rc) (L : List Px) (X Y : Int) (p : Px) : Px := if hasR c X Y = true then cleanP (pixL c L X Y) else p
def pstT (c : Rc) (L : List Px) (x y : Int) (t : Nat → Px) : Nat → Px := fun i => if i < 64 then pstP c L (x * 8 + (i : Int) % 8) (y * 8 + (i : Int) / 8) (t i) else t i
def pstF (c : Rc) (L : List Px) (_ : Unit) (X Y : Int) (p : Px) : Unit × Px := ((), pstP c L X Y p)
theorem runT_pst (c : Rc) (L : List Px) (e : TA) : ∀ k, ∀ i, (runT (pstF c L) e k ()).2 i = if i < k then pstP c L (e.x * 8 + (i : Int) % 8) (e.y * 8 + (i : Int) / 8) (e.t i) else e.t i
  | 0, i => by rw [if_neg (by omega)]; rfl
  | k + 1, i => by
    show upd (runT (pstF c L) e k ()).2 k (pstP c L (e.x * 8 + (k : Int) % 8) (e.y * 8 + (k : Int) / 8) (e.t k)) i = _
    unfold upd
    by_cases h : i = k
    · subst h
      rw [if_pos rfl, if_pos (Nat.lt_succ_self _)]
    · rw [if_neg h, runT_pst c L e k i]
      by_cases h2 : i < k
      · rw [if_pos h2, if_pos (Nat.lt_succ_of_lt h2)]
      · rw [if_neg h2, if_neg (show ¬ i < k + 1 from by omega)]
theorem runT_pst64 (c : Rc) (L : List Px) (e : TA) : (runT (pstF c L) e 64 ()).2 = pstT c L e.x e.y e.t := funext fun i => runT_pst c L e 64 i
theorem mapK_pst (c : Rc) (L : List Px) (e : TA) : (mapK (pstF c L) [e] () 1).2 = newA e.x e.y (pstT c L e.x e.y e.t) := by
  show [] ++ newA (aT [e] 0).x (aT [e] 0).y (runT (pstF c L) (aT [e] 0) 64 ()).2 = _
  have h : aT [e] 0 = e := rfl
  rw [h, runT_pst64, List.nil_append]
def OkL (L : List Px) : Prop := ∀ p ∈ L, p.ok
theorem pixL_ok {c : Rc} {L : List Px} (h : OkL L) (X Y : Int) : (pixL c L X Y).ok := by
  unfold pixL
  rw [List.getD_eq_getElem?_getD]
  cases hk : L[(idxI c X Y).toNat]? with
  | none => exact Px.zero_ok
  | some p => exact h p (List.mem_of_getElem? hk)
theorem pstP_ok {c : Rc} {L : List Px} (h : OkL L) (X Y : Int) (p : Px) (hp : p.ok) : (pstP c L X Y p).ok := by
  unfold pstP
  split
  · exact cleanP_ok (pixL_ok h X Y)
  · exact hp
theorem pstT_tok {c : Rc} {L : List Px} (h : OkL L) (x y : Int) {t : Nat → Px} (ht : Tok t) : Tok (pstT c L x y t) := fun i hi => by
  unfold pstT
  rw [if_pos hi]
  exact pstP_ok h _ _ _ (ht i hi)
def CleanL (ls : List TA) : Prop := ∀ e ∈ ls, eqT (cleanT e.t) e.t = true
theorem tileL_cleanL {ls : List TA} (h : CleanL ls) (x y : Int) {i : Nat} (hi : i < 64) : cleanP (tileL ls x y i) = tileL ls x y i := by
  rcases tileL_some ls x y with e | ⟨e, he, _, _, ht⟩
  · rw [e]; rfl
  · rw [ht]
    exact eqT_at (h e he) hi
theorem valid_clean {ls : List TA} (h : validL ls = true) : CleanL ls := fun e he => ((goodA_iff e).1 (validL_good h e he)).2.2
theorem pstT_clean (c : Rc) (L : List Px) (x y : Int) {t : Nat → Px} (h : ∀ i, i < 64 → cleanP (t i) = t i) : ∀ i, i < 64 → cleanP (pstT c L x y t i) = pstT c L x y t i := fun i hi => by
  unfold pstT
  rw [if_pos hi]
  unfold pstP
  split
  · exact cleanP_idem _
  · exact h i hi
def pst1 (c : Rc) (L : List Px) (ls : List TA) (p : Int × Int) : List TA := putL ls p.1 p.2 (pstT c L p.1 p.2 (tileL ls p.1 p.2))
def pstL (c : Rc) (L : List Px) (ls : List TA) (ps : List (Int × Int)) : List TA := ps.foldl (pst1 c L) ls
theorem pstL_snoc (c : Rc) (L : List Px) (ls : List TA) (ps : List (Int × Int)) (p : Int × Int) : pstL c L ls (ps ++ [p]) = pst1 c L (pstL c L ls ps) p := by unfold pstL; rw [List.foldl_append]; rfl
theorem pstL_cons (c : Rc) (L : List Px) (ls : List TA) (p : Int × Int) (ps : List (Int × Int)) : pstL c L ls (p :: ps) = pstL c L (pst1 c L ls p) ps := rfl
theorem pstL_len (c : Rc) (L : List Px) (ps : List (Int × Int)) : ∀ ls, (pstL c L ls ps).length ≤ ls.length + ps.length := by
  induction ps with
  | nil => intro ls; exact Nat.le_refl _
  | cons p r ih =>
    intro ls
    rw [pstL_cons]
    have h1 := ih (pst1 c L ls p)
    have h2 := putL_length ls p.1 p.2 (pstT c L p.1 p.2 (tileL ls p.1 p.2))
    rw [List.length_cons]
    unfold pst1 at h1 ⊢
    omega
theorem pstL_srt (c : Rc) (L : List Px) (ps : List (Int × Int)) : ∀ ls, Srt ls → Srt (pstL c L ls ps) := by
  induction ps with
  | nil => intro ls h; exact h
  | cons p r ih => intro ls h; exact ih _ (putL_srt h)
theorem pstL_tok {c : Rc} {L : List Px} (hL : OkL L) (ps : List (Int × Int)) : ∀ ls, TokL ls → TokL (pstL c L ls ps) := by
  induction ps with
  | nil => intro ls h; exact h
  | cons p r ih => intro ls h; exact ih _ (putL_tok h (pstT_tok hL _ _ (tileL_tok h _ _)))
theorem pst1_clean (c : Rc) (L : List Px) {ls : List TA} (h : CleanL ls) (p : Int × Int) : CleanL (pst1 c L ls p) := fun e he => by
  rcases putL_mem he with he | ⟨rfl, _⟩
  · exact h e he
  · exact eqT_true fun i hi => pstT_clean c L _ _ (fun j hj => tileL_cleanL h _ _ hj) i hi
theorem pstL_clean (c : Rc) (L : List Px) (ps : List (Int × Int)) : ∀ ls, CleanL ls → CleanL (pstL c L ls ps) := by
  induction ps with
  | nil => intro ls h; exact h
  | cons p r ih => intro ls h; exact ih _ (pst1_clean c L h p)
theorem pstL_good (c : Rc) (L : List Px) (ps : List (Int × Int)) : ∀ ls, (∀ e ∈ ls, goodA e = true) → (∀ p ∈ ps, withinB p.1 p.2 = true) → ∀ e ∈ pstL c L ls ps, goodA e = true := by
  induction ps with
  | nil => intro ls h _; exact h
  | cons p r ih =>
    intro ls h hp
    refine ih _ (putL_good h (hp p (List.mem_cons_self ..)) ?_) (fun q hq => hp q (List.mem_cons_of_mem _ hq))
    exact eqT_true fun i hi => pstT_clean c L _ _ (fun j hj => tileL_cleanL (fun e he => ((goodA_iff e).1 (h e he)).2.2) _ _ hj) i hi
def pstE (c : Rc) (L : List Px) (ls : List TA) : Int := if validR c = true ∧ (L.length : Int) = areaR c then (if fitsE c = 0 then manyE (pstL c L (fineL ls) (posL c)) else fitsE c) else 1
def pstR (c : Rc) (L : List Px) (ls : List TA) : List TA := if validR c = true ∧ (L.length : Int) = areaR c then (if fitsE c = 0 then manyL (pstL c L (fineL ls) (posL c)) else []) else []
theorem pstR_valid (c : Rc) (L : List Px) (ls : List TA) : validL (pstR c L ls) = true := by
  unfold pstR
  split
  · split
    · rename_i hE
      unfold manyL
      split
      · rename_i h
        exact validL_mk h (pstL_good c L _ _ (validL_good (fineL_valid ls)) (posL_in (fitsE_zero hE))) (pstL_srt c L _ _ (validL_srt (fineL_valid ls)))
      · exact validL_nil
    · exact validL_nil
  · exact validL_nil
theorem pstR_tok {c : Rc} {L : List Px} {ls : List TA} (hL : OkL L) (h : TokL ls) : TokL (pstR c L ls) := by
  unfold pstR
  split
  · split
    · unfold manyL
      split
      · exact pstL_tok hL _ _ (fineL_tok h)
      · exact TokL.nil
    · exact TokL.nil
  · exact TokL.nil
/-- The cut of a sorted list: what stands there. -/
theorem hit_at {ls : List TA} (hs : Srt ls) {x y : Int} (h : hitL ls x y = true) : cutL ls x y < ls.length ∧ aT ls (cutL ls x y) = ⟨x, y, tileL ls x y⟩ := by
  unfold hitL at h
  obtain ⟨h1, h2⟩ := Bool.and_eq_true_iff.1 h
  have h1 := of_decide_eq_true h1
  have h2 := of_decide_eq_true h2
  refine ⟨h1, ?_⟩
  have hm : aT ls (cutL ls x y) ∈ ls := List.mem_of_getElem? (aT_at h1)
  have ht := tileL_mem hs hm
  rw [h2.1, h2.2] at ht
  rw [ht]
  obtain ⟨e1, e2⟩ := h2
  generalize aT ls (cutL ls x y) = e at *
  obtain ⟨ex, ey, et⟩ := e
  simp only at e1 e2
  subst e1 e2
  rfl
theorem hit_not {ls : List TA} (hs : Srt ls) {x y : Int} (h : hitL ls x y = false) : tileL ls x y = zT := by
  refine tileL_none fun e he => ?_
  obtain ⟨j, hj⟩ := List.mem_iff_getElem?.1 he
  have hjl : j < ls.length := (List.getElem?_eq_some_iff.1 hj).1
  rw [aT_at hjl] at hj
  obtain rfl := Option.some.inj hj
  by_cases hc : j < cutL ls x y
  · have := of_decide_eq_true (cutL_lt hc)
    exact decide_eq_false (by omega)
  · unfold hitL at h
    have hcl : cutL ls x y < ls.length := by omega
    rw [decide_eq_true hcl, Bool.true_and] at h
    by_cases e : j = cutL ls x y
    · rw [e]; exact h
    · have h1 := of_decide_eq_true (srt_at hs (show cutL ls x y < j by omega) hjl)
      have h2 := of_decide_eq_false (cutL_at hcl)
      exact decide_eq_false (by omega)
/-- Lists with the same cells. -/
theorem putL_congr (ls : List TA) (x y : Int) {t u : Nat → Px} (h : ∀ i, i < 64 → t i = u i) : rowC (putL ls x y t) = rowC (putL ls x y u) ∧ (putL ls x y t).length = (putL ls x y u).length := by
  have hz : zeroB t = zeroB u := by
    rw [Bool.eq_iff_iff, zeroB_iff, zeroB_iff]
    exact ⟨fun g i hi => h i hi ▸ g i hi, fun g i hi => (h i hi).symm ▸ g i hi⟩
  have hn : rowC (newA x y t) = rowC (newA x y u) ∧ (newA x y t).length = (newA x y u).length := by
    unfold newA
    rw [hz]
    split
    · exact ⟨rfl, rfl⟩
    · refine ⟨?_, rfl⟩
      show (taC ⟨x, y, t⟩).toList ++ rowC [] = (taC ⟨x, y, u⟩).toList ++ rowC []
      rw [taC_mk ⟨x, y, t⟩ ⟨x, y, u⟩ rfl rfl (tileC_congr h)]
  rw [putL_cut, putL_cut, rowC_append, rowC_append, rowC_append, rowC_append, hn.1, List.length_append, List.length_append, List.length_append, List.length_append, hn.2]
  exact ⟨rfl, rfl⟩
theorem RS.congr {v : Value} {ls ks : List TA} {w : World} (h : RS v ls w) (hl : ls.length = ks.length) (hr : rowC ls = rowC ks) : RS v ks w := by
  rcases h with ⟨h1, rfl⟩ | ⟨g, o, c, e, hc, sc⟩
  · exact .inl ⟨h1, List.eq_nil_of_length_eq_zero hl.symm⟩
  · refine .inr ⟨g, o, c, by rw [← hl]; exact e, by omega, fun hn => ⟨(sc (by omega)).1, fun i hi j hj => ?_⟩⟩
    rw [(sc (by omega)).2 i (by omega) j hj, ← rowC_at ls i j (by omega) hj, hr, rowC_at ks i j hi hj]
theorem putL_zero (ls : List TA) (x y : Int) {t u : Nat → Px} (ht : zeroB t = true) (hu : zeroB u = true) : putL ls x y t = putL ls x y u := by
  rw [putL_cut, putL_cut]
  unfold newA
  rw [if_pos ht, if_pos hu]
end Go.Proofs.Ytppccnjckiedlaa
/- Contract of the reference's Same at equal images. -/
namespace Go.Proofs.Ytppccnjckiedlaa
open Go.RowKit Go.Shelf Pl
set_option linter.unusedVariables false
set_option linter.unusedSimpArgs false
set_option maxRecDepth 20000
end Go.Proofs.Ytppccnjckiedlaa
/- Contract of the reference's Image. -/
namespace Go.Proofs.Ytppccnjckiedlaa
open Go.RowKit Go.Shelf Pl
set_option linter.unusedVariables false
set_option linter.unusedSimpArgs false
set_option maxRecDepth 20000
def shC (c : Rc) (u : Value) (n : Int) : Array Value := #[.int .i64 c.x0, .int .i64 c.y0, .int .i64 c.x1, .int .i64 c.y1, u, .int .i64 n]
theorem R_fitsB (c : Rc) (n : Int) (w : World) (e : fitsE c = n) : Calls Try.prog 81 #[.agg (rcA c)] w fun e w' => e = .returned (.int .i64 n) ∧ Below w.heap.size w w' := e ▸ R_fits c w
/-- The slice of an image stored. -/
theorem wpList_storeU {ops : Array Oper} {rest : List Oper} {o : Oper} {a : Act} {w : World} {Q : Exit → Act → World → Prop} (hg : o.guard = none) (x y : Operand) (ho : o.op = .store 66 x y) (b : Nat) (hx : a.eval x = .pointer (some ⟨b, 4, none⟩)) (ad : Option Addr) (n cp : Nat) (hy : a.eval y = .slice ad n cp) {c : Rc} {u : Value} (ht : AtB 68 w b (imgC c u))
    (h : ∀ w', AtB 68 w' b (imgC c (.slice ad n cp)) → Chg b w w' → w'.heap.size = w.heap.size → wpList Try.prog ops Q rest (a.put o.dst undef) w') : wpList Try.prog ops Q (o :: rest) a w := by
  have e : AtB 68 (w.setCell ⟨b, 4, none⟩ (.slice ad n cp)) b (imgC c (.slice ad n cp)) := by
    have e1 : (imgC c u).setIfInBounds 4 (.slice ad n cp) = imgC c (.slice ad n cp) := rfl
    unfold AtB
    rw [← e1]
    exact heap_setCell_same _ _ _ _ _ _ ht
  refine wpList_storeAny hg x y ho _ ?_ (h _ e ((Chg.refl b w).setCell _) (by simp only [World.size_setCell]))
  rw [hx, hy]
  have c0 := imgC_u ht
  have f0 := ht.frozen 4
  simp [go_sem, c0, f0]
section
variable {o : Oper} {a : Act} {C : World → Prop} {K : Act → Prop}
theorem run_build_Im (w : World) (c : Rc) : (Instr.build 68 #[(0, .agg (rcA c))]).run Try.prog w = .ok (.agg (imgC c (.slice none 0 0))) w := by kernel_rfl
theorem quiet_buildIm {x : Operand} (h : o.op = .build 68 #[(0, x)]) (c : Rc) (hx : a.eval x = .agg (rcA c)) (hk : K (a.put o.dst (.agg (imgC c (.slice none 0 0))))) : o.quiet Try.prog a C K :=
  ⟨_, fun w hw => by
    unfold Oper.quietAt execOp
    simp only [h, List.map_toArray, List.map_cons, List.map_nil, hx, Sem.run_bind, run_build_Im, Result.andThen_ok, Sem.run_pure]
    exact ⟨rfl, rfl⟩, hk⟩
end
theorem px_row {c : Rc} (hf : Fits c) {k j : Nat} (hj : j < widN c) : pxX c (widN c * k + j) = c.x0 + (j : Int) ∧ pxY c (widN c * k + j) = c.y0 + (k : Int) := by
  have hw := (area_wid hf).2
  unfold pxX pxY
  rw [Nat.mul_add_mod, Nat.mod_eq_of_lt hj, Nat.mul_add_div hw, Nat.div_eq_of_lt hj, Nat.add_zero]
  exact ⟨rfl, rfl⟩
theorem OwnE.chgB {α : Type} {k : Nat} {T S : TypeId} {E : Elt α k T S} {B b : Nat} {v : Value} {ls : List α} {w w' : World} (h : OwnE E B v ls w) (hc : Chg b w w') (hne : ∀ k, v.ownBlock = some k → k ≠ b) : OwnE E B v ls w' := by
  refine World.ownsRow.kept (row := some b) h ⟨hc.os, hc.tape, hc.output, hc.size, fun k hk hn => hc.block k hk (fun e => hn (by rw [e]))⟩ ?_
  cases hv : v.ownBlock with
  | none => exact .inl rfl
  | some k =>
    right
    intro e
    injection e with e
    exact hne k hv e
end Go.Proofs.Ytppccnjckiedlaa
/- The positions of a rectangle's tiles: the reference's Tiles. -/
namespace Go.Proofs.Ytppccnjckiedlaa
open Go.RowKit Go.Shelf Pl
set_option linter.unusedVariables false
set_option linter.unusedSimpArgs false
set_option maxRecDepth 20000
def psE : Elt (Int × Int) 2 24 88 where
  enc := fun p => #[.int .i64 p.1, .int .i64 p.2]
  bytes := 16
  zero := (0, 0)
  size := fun _ => rfl
  one := fun x u hu => by
    have : u ∈ [Value.int .i64 x.1, .int .i64 x.2] := hu
    simp at this
    rcases this with rfl | rfl <;> rfl
  pos := by omega
  small := by omega
  und := Try.underlying88
  info := by kernel_rfl
  zer := by kernel_rfl
theorem tl_row {c : Rc} (hf : Fits c) {k j : Nat} (hj : j < widN (tlR c)) : posP c (widN (tlR c) * k + j) = (c.x0 / 8 + (j : Int), c.y0 / 8 + (k : Int)) := by
  obtain ⟨h1, h2⟩ := px_row (tl_fits hf) (k := k) hj
  unfold posP
  rw [h1, h2]
  rfl
set_option maxHeartbeats 8000000 in
theorem R_TilesL (c : Rc) (w : World) (HF : Fits c) : Calls Try.prog 97 #[.agg (rcA c), .int .i64 2000] w fun e w' => ∃ a cp, e = .returned (.slice a (tlN c) cp) ∧ RSE psE (.slice a (tlN c) cp) (posL c) w' ∧ Below w.heap.size w w' := by
  have B := Below.refl w.heap.size w
  have hf := Lib.hid HF
  obtain ⟨hew, hw0⟩ := area_wid (tl_fits HF)
  have hNle := tlN_le HF
  obtain ⟨f1, f2, f3, f4, f5, f6, f7, f8⟩ := HF
  have hE : emptyR ⟨c.x0, c.y0, c.x1, c.y1⟩ = false := (emptyR_not _).2 ⟨f1, f2⟩
  obtain ⟨W, hW⟩ : ∃ W : Nat, (c.x1 - 1) / 8 + 1 - c.x0 / 8 = (W : Int) := ⟨((c.x1 - 1) / 8 + 1 - c.x0 / 8).toNat, by omega⟩
  obtain ⟨H, hH⟩ : ∃ H : Nat, (c.y1 - 1) / 8 + 1 - c.y0 / 8 = (H : Int) := ⟨((c.y1 - 1) / 8 + 1 - c.y0 / 8).toNat, by omega⟩
  have eW : widN (tlR c) = W := by unfold widN tlR; simp only; rw [hW]; exact Int.toNat_natCast _
  have eH : ((tlR c).y1 - (tlR c).y0).toNat = H := by unfold tlR; simp only; rw [hH]; exact Int.toNat_natCast _
  rw [eW, eH] at hew
  rw [eW] at hw0
  change tlN c = W * H at hew
  have HR := Lib.hid (fun (k j : Nat) (hj : j < W) => by
    have := tl_row (c := c) hf.out (k := k) (j := j) (by rw [eW]; exact hj)
    rw [eW] at this
    exact this)
  have HNX := Lib.hid (fun (n : Nat) (h : n < tlN c) => posL_take c h)
  have HLN := Lib.hid (posL_len c)
  have wf1 : (Lit.int .i64 c.x0).wf = true := wf_mk (by omega) (by omega)
  have wf2 : (Lit.int .i64 c.y0).wf = true := wf_mk (by omega) (by omega)
  have wf3 : (Lit.int .i64 (c.x1 - 1)).wf = true := wf_mk (by omega) (by omega)
  have wf4 : (Lit.int .i64 (c.y1 - 1)).wf = true := wf_mk (by omega) (by omega)
  go_enter Try.func97, Try.ntmps97
  go_upto_region 0 with fail
  refine wp_region_lit ?_
  try simp only [List.getElem_toArray, List.getElem_cons_zero, List.getElem_cons_succ]
  (refine wpList_boxB (t := 64) rfl _ rfl _ rfl ?_; intro b_c2 wn hle hge ht hbn hzn; have hsz := B.size; replace B := B.trans (hbn.mono (by omega)); have hln := Nat.lt_of_lt_of_eq (Nat.lt_succ_self _) hzn.symm; clear hzn; have c2 := ht; clear ht; simp only [Act.put, putS])
  refine wpList_chunk 1 (by kernel_rfl) ?_
  simp only [takS, Nat.reduceAdd]
  repeat (first | go_big_quiet_skip | (go_big_quiet_want; first | (go_big_quiet_op; go_big_quiet_on)))
  refine wpQuiet_nil ?_
  refine wpList_nil ?_
  go_upto_region 1 with fail
  refine wp_region_lit ?_
  try simp only [List.getElem_toArray, List.getElem_cons_zero, List.getElem_cons_succ]
  refine wpList_chunk 1 (by kernel_rfl) ?_
  simp only [takS, Nat.reduceAdd]
  repeat (first | go_big_quiet_skip | (go_big_quiet_want; first | (go_big_quiet_op; go_big_quiet_on)))
  refine wpQuiet_nil ?_
  refine wpList_nil ?_
  go_upto_region 2 with fail
  refine wp_region_lit ?_
  try simp only [List.getElem_toArray, List.getElem_cons_zero, List.getElem_cons_succ]
  refine wpList_chunk 1 (by kernel_rfl) ?_
  simp only [takS, Nat.reduceAdd]
  repeat (first | go_big_quiet_skip | (go_big_quiet_want; first | (refine quiet_loadAny (t := 64) rfl _ _ _ rfl (fun w hw => run_load_B (ov_B c2 w hw) Try.isAgg64 (by kernel_rfl)) (by rfl) ?_; simp only [Act.put, putS]; go_big_quiet_on) | (go_big_quiet_op; go_big_quiet_on)))
  refine wpQuiet_nil ?_
  refine wpList_callF (by first | rfl | simp [Region.wanted, yielded]) rfl (enters_of Try.func82 (by kernel_rfl) rfl) (by simp only [List.map_toArray, List.map_cons, List.map_nil, Act.eval, Array.getD_eq_getD_getElem?, List.getElem?_toArray, List.getElem?_cons_succ, List.getElem?_cons_zero, Option.getD_some]; rfl) ?_
  refine (R_EmptyV c.x0 c.y0 c.x1 c.y1 _).mono ?_
  rintro e wn ⟨rfl, hbn⟩
  have hsz := B.size
  have hzn := hbn.size
  replace B := B.trans (hbn.mono B.size)
  (try first | replace c2 := c2.of_eq (hbn.block _ c2.lt) | replace c2 := c2.below hbn)
  rw [hE]
  refine ⟨_, rfl, ?_⟩
  simp only [Act.put, putS]
  refine wpList_chunk 1 (by kernel_rfl) ?_
  simp only [takS, Nat.reduceAdd]
  repeat (first | go_big_quiet_skip | (go_big_quiet_want; first | (go_big_quiet_op; go_big_quiet_on)))
  refine wpQuiet_nil ?_
  refine wpList_nil ?_
  go_upto_region 5 with fail
  refine wp_region_lit ?_
  try simp only [List.getElem_toArray, List.getElem_cons_zero, List.getElem_cons_succ]
  refine wpList_chunk 4 (by kernel_rfl) ?_
  simp only [takS, Nat.reduceAdd]
  repeat (first | go_big_quiet_skip | (go_big_quiet_want; first | (refine quiet_loadAny (t := 3) rfl _ _ _ rfl (fun w hw => run_load_int ((ov_B c2 w hw).cellL 0 rfl)) (by rfl) ?_; simp only [Act.put, putS]; go_big_quiet_on) | (refine quiet_loadAny (t := 3) rfl _ _ _ rfl (fun w hw => run_load_int ((ov_B c2 w hw).cellL 1 rfl)) (by rfl) ?_; simp only [Act.put, putS]; go_big_quiet_on) | (refine quiet_loadAny (t := 3) rfl _ _ _ rfl (fun w hw => run_load_int ((ov_B c2 w hw).cellL 2 rfl)) (by rfl) ?_; simp only [Act.put, putS]; go_big_quiet_on) | (refine quiet_loadAny (t := 3) rfl _ _ _ rfl (fun w hw => run_load_int ((ov_B c2 w hw).cellL 3 rfl)) (by rfl) ?_; simp only [Act.put, putS]; go_big_quiet_on) | (refine quiet_loadAny (t := 3) rfl _ _ _ rfl (fun w hw => run_load_int ((ov_B p7 w hw).cellL 0 rfl)) (by rfl) ?_; simp only [Act.put, putS]; go_big_quiet_on) | (refine quiet_loadAny (t := 3) rfl _ _ _ rfl (fun w hw => run_load_int ((ov_B p7 w hw).cellL 1 rfl)) (by rfl) ?_; simp only [Act.put, putS]; go_big_quiet_on) | (refine quiet_loadAny (t := 3) rfl _ _ _ rfl (fun w hw => run_load_int ((ov_B p8 w hw).cellL 0 rfl)) (by rfl) ?_; simp only [Act.put, putS]; go_big_quiet_on) | (refine quiet_loadAny (t := 3) rfl _ _ _ rfl (fun w hw => run_load_int ((ov_B p8 w hw).cellL 1 rfl)) (by rfl) ?_; simp only [Act.put, putS]; go_big_quiet_on) | (go_big_quiet_op; go_big_quiet_on)))
  refine wpQuiet_nil ?_
  refine wpList_callF (by first | rfl | simp [Region.wanted, yielded]) rfl (enters_of Try.func64 (by kernel_rfl) rfl) (by simp only [List.map_toArray, List.map_cons, List.map_nil, Act.eval, Array.getD_eq_getD_getElem?, List.getElem?_toArray, List.getElem?_cons_succ, List.getElem?_cons_zero, Option.getD_some]; rfl) ?_
  refine (R_At c.x0 c.y0 _ wf1 wf2).mono ?_
  rintro e wn ⟨rfl, hbn⟩
  have hsz := B.size
  have hzn := hbn.size
  replace B := B.trans (hbn.mono B.size)
  (try first | replace c2 := c2.of_eq (hbn.block _ c2.lt) | replace c2 := c2.below hbn)
  (try first | replace p7 := p7.of_eq (hbn.block _ p7.lt) | replace p7 := p7.below hbn)
  (try first | replace p8 := p8.of_eq (hbn.block _ p8.lt) | replace p8 := p8.below hbn)
  refine ⟨_, rfl, ?_⟩
  simp only [Act.put, putS]
  (refine wpList_allocBk (t := 24) rfl _ (run_alloc_Ps _ _ rfl) ?_; intro b_p7 wn hle hge ht hbn hzn; have hsz := B.size; replace B := B.trans (hbn.mono (by omega)); have hln := Nat.lt_of_lt_of_eq (Nat.lt_succ_self _) hzn.symm; clear hzn; (try first | (have hlt := c2.lt; replace c2 := c2.of_eq (hbn.block _ (by omega))) | replace c2 := c2.below (hbn.mono hle)); (try first | (have hlt := p7.lt; replace p7 := p7.of_eq (hbn.block _ (by omega))) | replace p7 := p7.below (hbn.mono hle)); (try first | (have hlt := p8.lt; replace p8 := p8.of_eq (hbn.block _ (by omega))) | replace p8 := p8.below (hbn.mono hle)); have p7 := ht; clear ht; simp only [Act.put, putS])
  (refine wpList_storeB (t := 24) rfl _ _ rfl _ rfl _ rfl p7 (by kernel_rfl) rfl (by simp [Value.oneCell']) ?_; clear p7; intro wn ht hcn hzn; have hsz := B.size; replace hzn := Nat.le_of_eq hzn.symm; replace B := Chg.below B hcn (by omega) B.size; (try replace c2 := c2.of_eq (hcn.block _ c2.lt (by omega))); (try replace p8 := p8.of_eq (hcn.block _ p8.lt (by omega))); have p7 := ht; clear ht; simp only [Act.put, putS])
  refine wpList_nil ?_
  go_upto_region 6 with fail
  refine wp_region_lit ?_
  try simp only [List.getElem_toArray, List.getElem_cons_zero, List.getElem_cons_succ]
  refine wpList_chunk 6 (by kernel_rfl) ?_
  simp only [takS, Nat.reduceAdd]
  repeat (first | go_big_quiet_skip | (go_big_quiet_want; first | (refine quiet_loadAny (t := 3) rfl _ _ _ rfl (fun w hw => run_load_int ((ov_B c2 w hw).cellL 0 rfl)) (by rfl) ?_; simp only [Act.put, putS]; go_big_quiet_on) | (refine quiet_loadAny (t := 3) rfl _ _ _ rfl (fun w hw => run_load_int ((ov_B c2 w hw).cellL 1 rfl)) (by rfl) ?_; simp only [Act.put, putS]; go_big_quiet_on) | (refine quiet_loadAny (t := 3) rfl _ _ _ rfl (fun w hw => run_load_int ((ov_B c2 w hw).cellL 2 rfl)) (by rfl) ?_; simp only [Act.put, putS]; go_big_quiet_on) | (refine quiet_loadAny (t := 3) rfl _ _ _ rfl (fun w hw => run_load_int ((ov_B c2 w hw).cellL 3 rfl)) (by rfl) ?_; simp only [Act.put, putS]; go_big_quiet_on) | (refine quiet_loadAny (t := 3) rfl _ _ _ rfl (fun w hw => run_load_int ((ov_B p7 w hw).cellL 0 rfl)) (by rfl) ?_; simp only [Act.put, putS]; go_big_quiet_on) | (refine quiet_loadAny (t := 3) rfl _ _ _ rfl (fun w hw => run_load_int ((ov_B p7 w hw).cellL 1 rfl)) (by rfl) ?_; simp only [Act.put, putS]; go_big_quiet_on) | (refine quiet_loadAny (t := 3) rfl _ _ _ rfl (fun w hw => run_load_int ((ov_B p8 w hw).cellL 0 rfl)) (by rfl) ?_; simp only [Act.put, putS]; go_big_quiet_on) | (refine quiet_loadAny (t := 3) rfl _ _ _ rfl (fun w hw => run_load_int ((ov_B p8 w hw).cellL 1 rfl)) (by rfl) ?_; simp only [Act.put, putS]; go_big_quiet_on) | (go_big_quiet_op; go_big_quiet_on)))
  refine wpQuiet_nil ?_
  refine wpList_callF (by first | rfl | simp [Region.wanted, yielded]) rfl (enters_of Try.func64 (by kernel_rfl) rfl) (by simp only [List.map_toArray, List.map_cons, List.map_nil, Act.eval, Array.getD_eq_getD_getElem?, List.getElem?_toArray, List.getElem?_cons_succ, List.getElem?_cons_zero, Option.getD_some]; rfl) ?_
  refine (R_At (c.x1 - 1) (c.y1 - 1) _ wf3 wf4).mono ?_
  rintro e wn ⟨rfl, hbn⟩
  have hsz := B.size
  have hzn := hbn.size
  replace B := B.trans (hbn.mono B.size)
  (try first | replace c2 := c2.of_eq (hbn.block _ c2.lt) | replace c2 := c2.below hbn)
  (try first | replace p7 := p7.of_eq (hbn.block _ p7.lt) | replace p7 := p7.below hbn)
  (try first | replace p8 := p8.of_eq (hbn.block _ p8.lt) | replace p8 := p8.below hbn)
  refine ⟨_, rfl, ?_⟩
  simp only [Act.put, putS]
  (refine wpList_allocBk (t := 24) rfl _ (run_alloc_Ps _ _ rfl) ?_; intro b_p8 wn hle hge ht hbn hzn; have hsz := B.size; replace B := B.trans (hbn.mono (by omega)); have hln := Nat.lt_of_lt_of_eq (Nat.lt_succ_self _) hzn.symm; clear hzn; (try first | (have hlt := c2.lt; replace c2 := c2.of_eq (hbn.block _ (by omega))) | replace c2 := c2.below (hbn.mono hle)); (try first | (have hlt := p7.lt; replace p7 := p7.of_eq (hbn.block _ (by omega))) | replace p7 := p7.below (hbn.mono hle)); (try first | (have hlt := p8.lt; replace p8 := p8.of_eq (hbn.block _ (by omega))) | replace p8 := p8.below (hbn.mono hle)); have p8 := ht; clear ht; simp only [Act.put, putS])
  (refine wpList_storeB (t := 24) rfl _ _ rfl _ rfl _ rfl p8 (by kernel_rfl) rfl (by simp [Value.oneCell']) ?_; clear p8; intro wn ht hcn hzn; have hsz := B.size; replace hzn := Nat.le_of_eq hzn.symm; replace B := Chg.below B hcn (by omega) B.size; (try replace c2 := c2.of_eq (hcn.block _ c2.lt (by omega))); (try replace p7 := p7.of_eq (hcn.block _ p7.lt (by omega))); have p8 := ht; clear ht; simp only [Act.put, putS])
  refine wpList_nil ?_
  have k1 : w.heap.size ≤ b_c2 := by omega
  have k2 : b_c2 < b_p7 := by have := c2.lt; omega
  have k3 : b_p7 < b_p8 := by have := p7.lt; omega
  have k4 := p8.lt
  obtain ⟨b0, hb0⟩ : ∃ n, n = wn.heap.size := ⟨_, rfl⟩
  have k5 : b_p8 < b0 := by omega
  have k6 : b0 ≤ wn.heap.size := by omega
  have od : OwnE psE b0 (.slice none 0 0) ((posL c).take 0) wn := OwnE.nil b0 wn
  clear hb0 k4
  go_upto_region 7 with fail
  refine wp_region_lit ?_
  try simp only [List.getElem_toArray, List.getElem_cons_zero, List.getElem_cons_succ]
  refine wpList_chunk 3 (by kernel_rfl) ?_
  simp only [takS, Nat.reduceAdd]
  repeat (first | go_big_quiet_skip | (go_big_quiet_want; first | (refine quiet_loadAny (t := 3) rfl _ _ _ rfl (fun w hw => run_load_int ((ov_B c2 w hw).cellL 0 rfl)) (by rfl) ?_; simp only [Act.put, putS]; go_big_quiet_on) | (refine quiet_loadAny (t := 3) rfl _ _ _ rfl (fun w hw => run_load_int ((ov_B c2 w hw).cellL 1 rfl)) (by rfl) ?_; simp only [Act.put, putS]; go_big_quiet_on) | (refine quiet_loadAny (t := 3) rfl _ _ _ rfl (fun w hw => run_load_int ((ov_B c2 w hw).cellL 2 rfl)) (by rfl) ?_; simp only [Act.put, putS]; go_big_quiet_on) | (refine quiet_loadAny (t := 3) rfl _ _ _ rfl (fun w hw => run_load_int ((ov_B c2 w hw).cellL 3 rfl)) (by rfl) ?_; simp only [Act.put, putS]; go_big_quiet_on) | (refine quiet_loadAny (t := 3) rfl _ _ _ rfl (fun w hw => run_load_int ((ov_B p7 w hw).cellL 0 rfl)) (by rfl) ?_; simp only [Act.put, putS]; go_big_quiet_on) | (refine quiet_loadAny (t := 3) rfl _ _ _ rfl (fun w hw => run_load_int ((ov_B p7 w hw).cellL 1 rfl)) (by rfl) ?_; simp only [Act.put, putS]; go_big_quiet_on) | (refine quiet_loadAny (t := 3) rfl _ _ _ rfl (fun w hw => run_load_int ((ov_B p8 w hw).cellL 0 rfl)) (by rfl) ?_; simp only [Act.put, putS]; go_big_quiet_on) | (refine quiet_loadAny (t := 3) rfl _ _ _ rfl (fun w hw => run_load_int ((ov_B p8 w hw).cellL 1 rfl)) (by rfl) ?_; simp only [Act.put, putS]; go_big_quiet_on) | (go_big_quiet_op; go_big_quiet_on)))
  refine wpQuiet_nil ?_
  refine wpList_nil ?_
  go_wp2
  go_loopw [5, 9, 10] (fun ov yv _ wr => ∃ (k n cp : Nat) (ad : Option Addr), k ≤ H ∧ yv = .int .i64 (c.y0 / 8 + (k : Int)) ∧ n = W * k ∧ ov = .slice ad n cp ∧ Below w.heap.size w wr ∧ b0 ≤ wr.heap.size ∧ AtB 64 wr b_c2 (rcA c) ∧ AtB 24 wr b_p7 #[.int .i64 (c.x0 / 8), .int .i64 (c.y0 / 8)] ∧ AtB 24 wr b_p8 #[.int .i64 ((c.x1 - 1) / 8), .int .i64 ((c.y1 - 1) / 8)] ∧ OwnE psE b0 (.slice ad n cp) ((posL c).take n) wr) (fun _ yv _ _ => ((c.y1 - 1) / 8 + 1 - intOf yv).toNat)
  case atStart => exact ⟨0, 0, 0, none, by omega, by simp, by simp, rfl, B, k6, c2, p7, p8, od⟩
  case round =>
    clear B c2 p7 p8 od k6
    obtain ⟨k, n, cp, ad, hk, rfl, hnk, rfl, B, k6, c2, p7, p8, od⟩ := hrel
    by_cases hkH : k < H
    · have q1 : decide (c.y0 / 8 + (k : Int) ≤ (c.y1 - 1) / 8) = true := decide_eq_true (by omega)
      have hn2 : W * k + W ≤ W * H := by
        have := Nat.mul_le_mul_left W (show k + 1 ≤ H from hkH)
        rw [Nat.mul_succ] at this
        exact this
      have q3 : decide ((n : Int) < 2000) = true := decide_eq_true (by omega)
      have q4 : decide (n < 2000) = true := decide_eq_true (by omega)
      go_upto_region 8 with fail
      refine wp_region_lit ?_
      try simp only [List.getElem_toArray, List.getElem_cons_zero, List.getElem_cons_succ]
      refine wpList_chunk 6 (by kernel_rfl) ?_
      simp only [takS, Nat.reduceAdd]
      repeat (first | go_big_quiet_skip | (go_big_quiet_want; first | (refine quiet_loadAny (t := 3) rfl _ _ _ rfl (fun w hw => run_load_int ((ov_B c2 w hw).cellL 0 rfl)) (by rfl) ?_; simp only [Act.put, putS]; go_big_quiet_on) | (refine quiet_loadAny (t := 3) rfl _ _ _ rfl (fun w hw => run_load_int ((ov_B c2 w hw).cellL 1 rfl)) (by rfl) ?_; simp only [Act.put, putS]; go_big_quiet_on) | (refine quiet_loadAny (t := 3) rfl _ _ _ rfl (fun w hw => run_load_int ((ov_B c2 w hw).cellL 2 rfl)) (by rfl) ?_; simp only [Act.put, putS]; go_big_quiet_on) | (refine quiet_loadAny (t := 3) rfl _ _ _ rfl (fun w hw => run_load_int ((ov_B c2 w hw).cellL 3 rfl)) (by rfl) ?_; simp only [Act.put, putS]; go_big_quiet_on) | (refine quiet_loadAny (t := 3) rfl _ _ _ rfl (fun w hw => run_load_int ((ov_B p7 w hw).cellL 0 rfl)) (by rfl) ?_; simp only [Act.put, putS]; go_big_quiet_on) | (refine quiet_loadAny (t := 3) rfl _ _ _ rfl (fun w hw => run_load_int ((ov_B p7 w hw).cellL 1 rfl)) (by rfl) ?_; simp only [Act.put, putS]; go_big_quiet_on) | (refine quiet_loadAny (t := 3) rfl _ _ _ rfl (fun w hw => run_load_int ((ov_B p8 w hw).cellL 0 rfl)) (by rfl) ?_; simp only [Act.put, putS]; go_big_quiet_on) | (refine quiet_loadAny (t := 3) rfl _ _ _ rfl (fun w hw => run_load_int ((ov_B p8 w hw).cellL 1 rfl)) (by rfl) ?_; simp only [Act.put, putS]; go_big_quiet_on) | (go_big_quiet_op; go_big_quiet_on)))
      refine wpQuiet_nil ?_
      refine wpList_lenS (by first | rfl | simp [Region.wanted, yielded]) rfl Try.underlying88 rfl ?_
      simp only [Act.put, putS]
      refine wpList_chunk 3 (by kernel_rfl) ?_
      simp only [takS, Nat.reduceAdd]
      repeat (first | go_big_quiet_skip | (go_big_quiet_want; first | (go_big_quiet_op; go_big_quiet_on)))
      refine wpQuiet_nil ?_
      refine wpList_nil ?_
      go_upto_region 10 with fail
      refine wp_region_lit ?_
      try simp only [List.getElem_toArray, List.getElem_cons_zero, List.getElem_cons_succ]
      refine wpList_chunk 3 (by kernel_rfl) ?_
      simp only [takS, Nat.reduceAdd]
      repeat (first | go_big_quiet_skip | (go_big_quiet_want; first | (refine quiet_loadAny (t := 3) rfl _ _ _ rfl (fun w hw => run_load_int ((ov_B c2 w hw).cellL 0 rfl)) (by rfl) ?_; simp only [Act.put, putS]; go_big_quiet_on) | (refine quiet_loadAny (t := 3) rfl _ _ _ rfl (fun w hw => run_load_int ((ov_B c2 w hw).cellL 1 rfl)) (by rfl) ?_; simp only [Act.put, putS]; go_big_quiet_on) | (refine quiet_loadAny (t := 3) rfl _ _ _ rfl (fun w hw => run_load_int ((ov_B c2 w hw).cellL 2 rfl)) (by rfl) ?_; simp only [Act.put, putS]; go_big_quiet_on) | (refine quiet_loadAny (t := 3) rfl _ _ _ rfl (fun w hw => run_load_int ((ov_B c2 w hw).cellL 3 rfl)) (by rfl) ?_; simp only [Act.put, putS]; go_big_quiet_on) | (refine quiet_loadAny (t := 3) rfl _ _ _ rfl (fun w hw => run_load_int ((ov_B p7 w hw).cellL 0 rfl)) (by rfl) ?_; simp only [Act.put, putS]; go_big_quiet_on) | (refine quiet_loadAny (t := 3) rfl _ _ _ rfl (fun w hw => run_load_int ((ov_B p7 w hw).cellL 1 rfl)) (by rfl) ?_; simp only [Act.put, putS]; go_big_quiet_on) | (refine quiet_loadAny (t := 3) rfl _ _ _ rfl (fun w hw => run_load_int ((ov_B p8 w hw).cellL 0 rfl)) (by rfl) ?_; simp only [Act.put, putS]; go_big_quiet_on) | (refine quiet_loadAny (t := 3) rfl _ _ _ rfl (fun w hw => run_load_int ((ov_B p8 w hw).cellL 1 rfl)) (by rfl) ?_; simp only [Act.put, putS]; go_big_quiet_on) | (go_big_quiet_op; go_big_quiet_on)))
      refine wpQuiet_nil ?_
      refine wpList_nil ?_
      go_wp2
      go_loopw [5, 10] (fun ov xv wr => ∃ (j n cp : Nat) (ad : Option Addr), j ≤ W ∧ xv = .int .i64 (c.x0 / 8 + (j : Int)) ∧ n = W * k + j ∧ ov = .slice ad n cp ∧ Below w.heap.size w wr ∧ b0 ≤ wr.heap.size ∧ AtB 64 wr b_c2 (rcA c) ∧ AtB 24 wr b_p7 #[.int .i64 (c.x0 / 8), .int .i64 (c.y0 / 8)] ∧ AtB 24 wr b_p8 #[.int .i64 ((c.x1 - 1) / 8), .int .i64 ((c.y1 - 1) / 8)] ∧ OwnE psE b0 (.slice ad n cp) ((posL c).take n) wr) (fun _ xv _ => ((c.x1 - 1) / 8 + 1 - intOf xv).toNat)
      case atStart => exact ⟨0, n, cp, ad, by omega, by simp, by omega, rfl, B, k6, c2, p7, p8, od⟩
      case round =>
        clear B c2 p7 p8 od k6 hnk q3 q4
        obtain ⟨j, n, cp, ad, hj, rfl, hnj, rfl, B, k6, c2, p7, p8, od⟩ := hrel
        have q3 : decide ((n : Int) < 2000) = true := decide_eq_true (by omega)
        have q4 : decide (n < 2000) = true := decide_eq_true (by omega)
        by_cases hjW : j < W
        · have q2 : decide (c.x0 / 8 + (j : Int) ≤ (c.x1 - 1) / 8) = true := decide_eq_true (by omega)
          have hna : n < tlN c := by omega
          have hol : ((posL c).take n).length = n := by rw [List.length_take, HLN.out]; omega
          have HNXT := Lib.hid (show (posL c).take (n + 1) = (posL c).take n ++ [(c.x0 / 8 + (j : Int), c.y0 / 8 + (k : Int))] by
            have := HNX.out n hna
            rw [hnj] at this ⊢
            rw [HR.out k j hjW] at this
            exact this)
          go_upto_region 11 with fail
          refine wp_region_lit ?_
          try simp only [List.getElem_toArray, List.getElem_cons_zero, List.getElem_cons_succ]
          refine wpList_chunk 6 (by kernel_rfl) ?_
          simp only [takS, Nat.reduceAdd]
          repeat (first | go_big_quiet_skip | (go_big_quiet_want; first | (refine quiet_loadAny (t := 3) rfl _ _ _ rfl (fun w hw => run_load_int ((ov_B c2 w hw).cellL 0 rfl)) (by rfl) ?_; simp only [Act.put, putS]; go_big_quiet_on) | (refine quiet_loadAny (t := 3) rfl _ _ _ rfl (fun w hw => run_load_int ((ov_B c2 w hw).cellL 1 rfl)) (by rfl) ?_; simp only [Act.put, putS]; go_big_quiet_on) | (refine quiet_loadAny (t := 3) rfl _ _ _ rfl (fun w hw => run_load_int ((ov_B c2 w hw).cellL 2 rfl)) (by rfl) ?_; simp only [Act.put, putS]; go_big_quiet_on) | (refine quiet_loadAny (t := 3) rfl _ _ _ rfl (fun w hw => run_load_int ((ov_B c2 w hw).cellL 3 rfl)) (by rfl) ?_; simp only [Act.put, putS]; go_big_quiet_on) | (refine quiet_loadAny (t := 3) rfl _ _ _ rfl (fun w hw => run_load_int ((ov_B p7 w hw).cellL 0 rfl)) (by rfl) ?_; simp only [Act.put, putS]; go_big_quiet_on) | (refine quiet_loadAny (t := 3) rfl _ _ _ rfl (fun w hw => run_load_int ((ov_B p7 w hw).cellL 1 rfl)) (by rfl) ?_; simp only [Act.put, putS]; go_big_quiet_on) | (refine quiet_loadAny (t := 3) rfl _ _ _ rfl (fun w hw => run_load_int ((ov_B p8 w hw).cellL 0 rfl)) (by rfl) ?_; simp only [Act.put, putS]; go_big_quiet_on) | (refine quiet_loadAny (t := 3) rfl _ _ _ rfl (fun w hw => run_load_int ((ov_B p8 w hw).cellL 1 rfl)) (by rfl) ?_; simp only [Act.put, putS]; go_big_quiet_on) | (go_big_quiet_op; go_big_quiet_on)))
          refine wpQuiet_nil ?_
          refine wpList_lenS (by first | rfl | simp [Region.wanted, yielded]) rfl Try.underlying88 rfl ?_
          simp only [Act.put, putS]
          refine wpList_chunk 3 (by kernel_rfl) ?_
          simp only [takS, Nat.reduceAdd]
          repeat (first | go_big_quiet_skip | (go_big_quiet_want; first | (go_big_quiet_op; go_big_quiet_on)))
          refine wpQuiet_nil ?_
          refine wpList_nil ?_
          go_upto_region 13 with fail
          refine wp_region_lit ?_
          try simp only [List.getElem_toArray, List.getElem_cons_zero, List.getElem_cons_succ]
          refine wpList_chunk 4 (by kernel_rfl) ?_
          simp only [takS, Nat.reduceAdd]
          repeat (first | go_big_quiet_skip | (go_big_quiet_want; first | (go_big_quiet_op; go_big_quiet_on)))
          refine wpQuiet_nil ?_
          (refine wpList_bs1E (E := psE) rfl _ rfl (c.x0 / 8 + (j : Int), c.y0 / 8 + (k : Int)) rfl (by omega) ?_; intro b_s1 wn hle hge ht hbn hzn; replace od := od.below (hbn.mono hle); have hsz := B.size; replace B := B.trans (hbn.mono (by omega)); have hln := Nat.lt_of_lt_of_eq (Nat.lt_succ_self _) hzn.symm; clear hzn; (try first | (have hlt := c2.lt; replace c2 := c2.of_eq (hbn.block _ (by omega))) | replace c2 := c2.below (hbn.mono hle)); (try first | (have hlt := p7.lt; replace p7 := p7.of_eq (hbn.block _ (by omega))) | replace p7 := p7.below (hbn.mono hle)); (try first | (have hlt := p8.lt; replace p8 := p8.of_eq (hbn.block _ (by omega))) | replace p8 := p8.below (hbn.mono hle)); have s1 := ht; clear ht; simp only [Act.put, putS])
          (at_builtin; refine wpList_appendE rfl _ _ rfl _ _ rfl rfl od (RSE.one s1) (by simp only [List.length_cons, List.length_nil]; omega) (by omega) ?_; intro v_od wn ht hbn; have hsz := B.size; have hbz := hbn.size; replace B := B.trans (hbn.mono (by omega)); clear od; (try replace c2 := c2.of_eq (hbn.block _ (by omega))); (try replace p7 := p7.of_eq (hbn.block _ (by omega))); (try replace p8 := p8.of_eq (hbn.block _ (by omega))); have od := ht; clear ht; obtain ⟨a_od, c_od, hv, hco⟩ := od.len; rw [List.length_append, hol] at hv; subst hv; simp only [Act.put, putS])
          refine wpList_chunk 1 (by kernel_rfl) ?_
          simp only [takS, Nat.reduceAdd]
          repeat (first | go_big_quiet_skip | (go_big_quiet_want; first | (go_big_quiet_op; go_big_quiet_on)))
          refine wpQuiet_nil ?_
          refine wpList_nil ?_
          go_wp2
          go_roundw
          case rel => exact ⟨j + 1, n + 1, _, _, by omega, by go_num, by omega, rfl, B, by omega, c2, p7, p8, by rw [HNXT.out]; exact od⟩
          case measure => simp [intOf]; omega
        · obtain rfl : j = W := by omega
          have q2 : decide (c.x0 / 8 + (j : Int) ≤ (c.x1 - 1) / 8) = false := decide_eq_false (by omega)
          go_upto_region 11 with fail
          refine wp_region_lit ?_
          try simp only [List.getElem_toArray, List.getElem_cons_zero, List.getElem_cons_succ]
          refine wpList_chunk 6 (by kernel_rfl) ?_
          simp only [takS, Nat.reduceAdd]
          repeat (first | go_big_quiet_skip | (go_big_quiet_want; first | (refine quiet_loadAny (t := 3) rfl _ _ _ rfl (fun w hw => run_load_int ((ov_B c2 w hw).cellL 0 rfl)) (by rfl) ?_; simp only [Act.put, putS]; go_big_quiet_on) | (refine quiet_loadAny (t := 3) rfl _ _ _ rfl (fun w hw => run_load_int ((ov_B c2 w hw).cellL 1 rfl)) (by rfl) ?_; simp only [Act.put, putS]; go_big_quiet_on) | (refine quiet_loadAny (t := 3) rfl _ _ _ rfl (fun w hw => run_load_int ((ov_B c2 w hw).cellL 2 rfl)) (by rfl) ?_; simp only [Act.put, putS]; go_big_quiet_on) | (refine quiet_loadAny (t := 3) rfl _ _ _ rfl (fun w hw => run_load_int ((ov_B c2 w hw).cellL 3 rfl)) (by rfl) ?_; simp only [Act.put, putS]; go_big_quiet_on) | (refine quiet_loadAny (t := 3) rfl _ _ _ rfl (fun w hw => run_load_int ((ov_B p7 w hw).cellL 0 rfl)) (by rfl) ?_; simp only [Act.put, putS]; go_big_quiet_on) | (refine quiet_loadAny (t := 3) rfl _ _ _ rfl (fun w hw => run_load_int ((ov_B p7 w hw).cellL 1 rfl)) (by rfl) ?_; simp only [Act.put, putS]; go_big_quiet_on) | (refine quiet_loadAny (t := 3) rfl _ _ _ rfl (fun w hw => run_load_int ((ov_B p8 w hw).cellL 0 rfl)) (by rfl) ?_; simp only [Act.put, putS]; go_big_quiet_on) | (refine quiet_loadAny (t := 3) rfl _ _ _ rfl (fun w hw => run_load_int ((ov_B p8 w hw).cellL 1 rfl)) (by rfl) ?_; simp only [Act.put, putS]; go_big_quiet_on) | (go_big_quiet_op; go_big_quiet_on)))
          refine wpQuiet_nil ?_
          refine wpList_skip (by first | rfl | simp [Region.wanted, yielded]) ?_
          simp only [Act.put, putS]
          refine wpList_chunk 3 (by kernel_rfl) ?_
          simp only [takS, Nat.reduceAdd]
          repeat (first | go_big_quiet_skip | (go_big_quiet_want; first | (go_big_quiet_op; go_big_quiet_on)))
          refine wpQuiet_nil ?_
          refine wpList_nil ?_
          go_wp2
          go_roundw
          case rel => exact ⟨k + 1, n, cp, ad, by omega, by go_num, by rw [hnj, Nat.mul_succ], rfl, B, k6, c2, p7, p8, od⟩
          case measure => simp [intOf]; omega
    · obtain rfl : k = H := by omega
      have q1 : decide (c.y0 / 8 + (k : Int) ≤ (c.y1 - 1) / 8) = false := decide_eq_false (by omega)
      go_upto_region 8 with fail
      refine wp_region_lit ?_
      try simp only [List.getElem_toArray, List.getElem_cons_zero, List.getElem_cons_succ]
      refine wpList_chunk 6 (by kernel_rfl) ?_
      simp only [takS, Nat.reduceAdd]
      repeat (first | go_big_quiet_skip | (go_big_quiet_want; first | (refine quiet_loadAny (t := 3) rfl _ _ _ rfl (fun w hw => run_load_int ((ov_B c2 w hw).cellL 0 rfl)) (by rfl) ?_; simp only [Act.put, putS]; go_big_quiet_on) | (refine quiet_loadAny (t := 3) rfl _ _ _ rfl (fun w hw => run_load_int ((ov_B c2 w hw).cellL 1 rfl)) (by rfl) ?_; simp only [Act.put, putS]; go_big_quiet_on) | (refine quiet_loadAny (t := 3) rfl _ _ _ rfl (fun w hw => run_load_int ((ov_B c2 w hw).cellL 2 rfl)) (by rfl) ?_; simp only [Act.put, putS]; go_big_quiet_on) | (refine quiet_loadAny (t := 3) rfl _ _ _ rfl (fun w hw => run_load_int ((ov_B c2 w hw).cellL 3 rfl)) (by rfl) ?_; simp only [Act.put, putS]; go_big_quiet_on) | (refine quiet_loadAny (t := 3) rfl _ _ _ rfl (fun w hw => run_load_int ((ov_B p7 w hw).cellL 0 rfl)) (by rfl) ?_; simp only [Act.put, putS]; go_big_quiet_on) | (refine quiet_loadAny (t := 3) rfl _ _ _ rfl (fun w hw => run_load_int ((ov_B p7 w hw).cellL 1 rfl)) (by rfl) ?_; simp only [Act.put, putS]; go_big_quiet_on) | (refine quiet_loadAny (t := 3) rfl _ _ _ rfl (fun w hw => run_load_int ((ov_B p8 w hw).cellL 0 rfl)) (by rfl) ?_; simp only [Act.put, putS]; go_big_quiet_on) | (refine quiet_loadAny (t := 3) rfl _ _ _ rfl (fun w hw => run_load_int ((ov_B p8 w hw).cellL 1 rfl)) (by rfl) ?_; simp only [Act.put, putS]; go_big_quiet_on) | (go_big_quiet_op; go_big_quiet_on)))
      refine wpQuiet_nil ?_
      refine wpList_skip (by first | rfl | simp [Region.wanted, yielded]) ?_
      simp only [Act.put, putS]
      refine wpList_chunk 3 (by kernel_rfl) ?_
      simp only [takS, Nat.reduceAdd]
      repeat (first | go_big_quiet_skip | (go_big_quiet_want; first | (go_big_quiet_op; go_big_quiet_on)))
      refine wpQuiet_nil ?_
      refine wpList_nil ?_
      go_upto_region 14 with fail
      refine wp_region_lit ?_
      try simp only [List.getElem_toArray, List.getElem_cons_zero, List.getElem_cons_succ]
      refine wpList_chunk 2 (by kernel_rfl) ?_
      simp only [takS, Nat.reduceAdd]
      repeat (first | go_big_quiet_skip | (go_big_quiet_want; first | (go_big_quiet_op; go_big_quiet_on)))
      refine wpQuiet_nil ?_
      refine wpList_nil ?_
      go_wp2
      go_ret
      obtain rfl : n = tlN c := by omega
      refine ⟨_, _, rfl, ?_, B⟩
      have e : (posL c).take (tlN c) = posL c := List.take_of_length_le (by rw [HLN.out]; omega)
      rw [e] at od
      exact od.rs
end Go.Proofs.Ytppccnjckiedlaa
/- Regions within a round of a range over a function: walked as anywhere. What a loop's body keeps. -/
namespace Go.Proofs.Ytppccnjckiedlaa
open Go.RowKit
set_option linter.unusedVariables false
set_option linter.unusedSimpArgs false

/-- The walk goes on, and in no other way. -/
def Only (K : Act → World → Prop) : Exit → Act → World → Prop
  | .normal, a, w => K a w
  | _, _, _ => False
theorem Only.out (K : Act → World → Prop) : ¬ LetsOut (Only K) := fun ⟨_, _, h⟩ => h
theorem Only.at {K : Act → World → Prop} {a : Act} {w : World} (h : K a w) : Only K .normal a w := h
def noDefer (l : List Oper) : Bool := l.all fun o => match o.op with
  | .defer _ => false
  | _ => true
theorem noDefer_at {l : List Oper} (h : noDefer l = true) {o : Oper} (ho : o ∈ l) : ∀ c, o.op ≠ .defer c := fun c e => by
  have := List.all_eq_true.1 h o ho
  rw [e] at this
  cases this
section
variable {P : Program} {r n : Nat}
theorem opIn_of {o : Oper} {a : Act} {w : World} {K K' : Act → World → Prop} {M : Act → World → Prop} {Q : Exit → Act → World → Prop} (hd : ∀ c, o.op ≠ .defer c) (hK : ∀ a w, K' a w → K a w) (h : o.wp P a w K' (Only M)) : o.wpIn (Fence.wide.inRound r) n P a w K Q := by
  refine ⟨fun _ _ => trivial, ?_⟩
  rw [Oper.semAt_eq _ _ _ hd]
  unfold Oper.wp at h
  generalize (execOp a.eval o).run P w = z at *
  cases z with
  | ok x w' =>
    cases x with
    | value v => exact hK _ _ h
    | skip => exact hK _ _ h
    | defer d => exact hK _ _ h
    | enter f args =>
      refine ⟨fun h => (by cases h), CallsIn.inRound r (callsIn_wide.2 (Calls.mono h fun e w'' he => ?_))⟩
      cases e with
      | returned v => exact hK _ _ he
      | panicked c => exact he.elim
      | outgrown => exact absurd he (Only.out M)
    | row s args =>
      refine ⟨fun h => (by cases h), fun c cs _ => ?_⟩
      obtain ⟨v, w'', h1, h2⟩ := h c cs
      exact ⟨v, w'', hK _ _ h1, stepsIn_wide.2 h2⟩
    | _ => exact absurd h (by simp [Oper.upon])
  | halt x w' =>
    cases x with
    | panic v => exact absurd h (by simp [Oper.upon, Only])
    | _ => exact absurd h (by simp [Oper.upon])
theorem wpListIn_of {ops : Array Oper} {K : Act → World → Prop} {Q : Exit → Act → World → Prop} (hK : ∀ a w, K a w → Q .normal a w) : ∀ (l : List Oper) (a : Act) (w : World), (∀ o ∈ l, ∀ c, o.op ≠ .defer c) → wpList P ops (Only K) l a w → wpListIn (Fence.wide.inRound r) n P ops Q l a w
  | [], a, w, _, h => hK _ _ h
  | o :: rest, a, w, hd, h => by
    unfold wpList at h
    unfold wpListIn
    have ih := wpListIn_of (ops := ops) hK rest
    by_cases hw : Region.wanted o (yielded ops a.tmps) = true
    · rw [if_pos hw] at h ⊢
      rcases h with h | h
      · exact opIn_of (hd o (List.mem_cons_self ..)) (fun a w hh => ih a w (fun o ho => hd o (List.mem_cons_of_mem _ ho)) hh) h
      · exact absurd h.2 (Only.out K)
    · rw [if_neg hw] at h ⊢
      exact ⟨fun _ _ => trivial, ih _ _ (fun o ho => hd o (List.mem_cons_of_mem _ ho)) h⟩
/-- A region within a round. -/
theorem round_lit {id : Nat} {l : List Oper} {Q : Exit → Act → World → Prop} {a : Act} {w : World} (hd : noDefer l = true) (h : wpList P l.toArray (Only fun a w => Q .normal a w) l a w) : (Code.region id l.toArray false).wpIn (Fence.wide.inRound r) n P Q a w :=
  wpIn_region_lit (wpListIn_of (fun _ _ h => h) l a w (fun o ho => noDefer_at hd ho) h)
end

/-! ### What a body keeps that turns one block b of cells -/
structure KpB (b : Nat) (W W' : World) : Prop where
  size : W.heap.size ≤ W'.heap.size
  same : ∀ (k : Nat) (o : Obj), k ≠ b → W.heap[k]? = some o → o.isCells = true → W'.heap[k]? = some o
theorem KpB.trans {b : Nat} {X Y Z : World} (h : KpB b X Y) (k : KpB b Y Z) : KpB b X Z := ⟨Nat.le_trans h.size k.size, fun i o hi ho hc => k.same i o hi (h.same i o hi ho hc) hc⟩
theorem KpB.refl (b : Nat) (W : World) : KpB b W W := ⟨Nat.le_refl _, fun _ _ _ h _ => h⟩
theorem KpB.putObj (b : Nat) {W : World} {l : Nat} {o : Obj} (o' : Obj) (hl : W.heap[l]? = some o) (ho : o.isCells = false) : KpB b W (W.putObj l o') :=
  ⟨by simp [World.putObj], fun k x hk hx hc => by
    have : k ≠ l := fun e => by rw [e, hl] at hx; cases hx; rw [ho] at hc; cases hc
    exact (World.putObj_heap_other (by omega)).trans hx⟩
theorem KpB.chg {b : Nat} {W W' : World} (h : Chg b W W') : KpB b W W' :=
  ⟨h.size, fun k o hk ho _ => (h.block k (Array.getElem?_eq_some_iff.1 ho).1 hk).trans ho⟩
theorem KpB.atB {b k : Nat} {t : TypeId} {cs : Array Value} {W W' : World} (h : KpB b W W') (hk : k ≠ b) (ha : AtB t W k cs) : AtB t W' k cs := h.same k _ hk ha rfl
theorem KeepsFrom.chg {B b : Nat} {W W' : World} (h : Chg b W W') (hb : b < B) : KeepsFrom B W W' :=
  ⟨h.size, fun k o hB hk _ => (h.block k (Array.getElem?_eq_some_iff.1 hk).1 (by omega)).trans hk⟩
theorem grown_of_below {W W' : World} (h : Below W.heap.size W W') : W.grownBy W' none :=
  ⟨h.os, h.tape, h.output, h.size, fun k hk _ => h.block k hk⟩
theorem AbidesFrom.below {β : Type} {B : Nat} {J : β → World → Prop} (h : AbidesFrom B J) {s : β} {W W' : World} (hs : J s W) (hb : Below W.heap.size W W') : J s W' :=
  h s W W' none hs (grown_of_below hb) (fun r e => by cases e)

/-! ### Facts of cells abide the turn of what is no cells -/
theorem AtB.own {t : TypeId} {A B : World} {b : Nat} {cs : Array Value} {row : Option Nat} (h : AtB t A b cs) (hg : A.grownBy B row) (hr : ∀ r, row = some r → ∃ o : Obj, A.heap[r]? = some o ∧ o.isCells = false) : AtB t B b cs :=
  (hg.block b h.lt (fun e => by
    obtain ⟨o, ho, hc⟩ := hr b e.symm
    rw [show A.heap[b]? = _ from h] at ho
    cases ho
    cases hc)).trans h
theorem cell_not {w : World} {g o : Nat} {v : Value} (h : w.cell? ⟨g, o, none⟩ = some v) : ∀ x : Obj, w.heap[g]? = some x → x.isCells = true := fun x hx => by
  unfold World.cell? at h
  simp only [hx] at h
  cases x <;> first | rfl | (simp at h)
theorem below_own {n : Nat} {w A B : World} {row : Option Nat} (h : Below n w A) (hn : n ≤ A.heap.size) (hg : A.grownBy B row) (hr : ∀ r, row = some r → n ≤ r) : Below n w B :=
  ⟨hg.os.trans h.os, hg.tape.trans h.tape, hg.output.trans h.output, Nat.le_trans h.size hg.size, fun k hk => (hg.block k (by omega) (fun e => by have := hr k e.symm; omega)).trans (h.block k hk)⟩
end Go.Proofs.Ytppccnjckiedlaa
/- Paste of package raster: what it does to one pixel; the iterator over the tiles of a rectangle. -/
namespace Go.Proofs.Ytppccnjckiedlaa
open Go.RowKit Go.Shelf Pl
set_option linter.unusedVariables false
set_option linter.unusedSimpArgs false
set_option maxRecDepth 20000
theorem P_EmptyB (r : Rc) (b : Bool) (w : World) (e : emptyR r = b) : Calls Try.prog 105 #[.agg (rcA r)] w fun e w' => e = .returned (.bool b) ∧ Below w.heap.size w w' := by
  subst e
  exact P_Empty r w
theorem P_HasO (r : Rc) (x y : Int) (b : Bool) (w : World) (e : hasR r x y = b) : Calls Try.prog 39 #[.agg (rcA r), .agg #[.int .i64 x, .int .i64 y]] w fun e w' => e = .returned (.bool b) ∧ Below w.heap.size w w' := by
  subst e
  exact P_Has r x y w
theorem P_AtO (x y : Int) (w : World) (hx : (Lit.int .i64 x).wf = true) (hy : (Lit.int .i64 y).wf = true) : Calls Try.prog 63 #[.agg #[.int .i64 x, .int .i64 y]] w fun e w' => e = .returned (.agg #[.int .i64 (x / 8), .int .i64 (y / 8)]) ∧ Below w.heap.size w w' := P_At x y w hx hy
theorem P_CleanB (p : Px) (w : World) (hp : p.ok) : Calls Try.prog 95 #[Px.v p] w fun e w' => e = .returned (Px.v (cleanP p)) ∧ Below w.heap.size w w' := P_Clean p w hp
set_option maxHeartbeats 2000000 in
theorem P_Paste1 (c : Rc) (hf : Fits c) (L : List Px) (hL : L.length = areaN c) (okL : OkL L) (x y : Int) (p : Px) (hp : p.ok) (bc bm g o cp : Nat) (w : World) (r0 : AtB 64 w bc (rcA c)) (m0 : AtB 68 w bm (imgC c (.slice (some ⟨g, o, none⟩) (areaN c) cp))) (ce : RCellsE pxE g o L w) :
    Calls Try.prog 94 #[.int .i64 x, .int .i64 y, Px.v p, .pointer (some ⟨bc, 0, none⟩), .pointer (some ⟨bm, 0, none⟩)] w fun e w' => e = .returned (Px.v (pstP c L x y p)) ∧ Below w.heap.size w w' := by
  have B := Below.refl w.heap.size w
  have hb1 := r0.lt
  have hb2 := m0.lt
  have hb3 := ce.lt
  have OKL := Lib.hid okL
  cases hh : hasR c x y with
  | true =>
    have e1 := Lib.hid (show pstP c L x y p = cleanP (pixL c L x y) from by unfold pstP; rw [hh]; rfl)
    obtain ⟨m1, m2, m3, m4⟩ := idxI_bd hf hh
    have hix : (idxI c x y).toNat < L.length := by rw [hL]; exact m4
    have hpx : L[(idxI c x y).toNat]? = some (pixL c L x y) := by
      unfold pixL
      rw [List.getD_eq_getElem?_getD, List.getElem?_eq_getElem hix]
      rfl
    have hok := Lib.hid (pixL_ok okL (c := c) x y)
    generalize pixL c L x y = pp at *
    have hh2 := of_decide_eq_true hh
    obtain ⟨g1, g2, g3, g4⟩ := hh2
    obtain ⟨a1, a2, a3, a4, a5, a6, a7, a8⟩ := hf
    have hidx : (y - c.y0) * (c.x1 - c.x0) + x - c.x0 = idxI c x y := rfl
    have m5 : idxI c x y < (areaN c : Int) := by omega
    have m6 : (areaN c : Int) ≤ 65536 := by
      unfold areaN
      have := mul_bd (a := c.x1 - c.x0) (b := c.y1 - c.y0) (m := 256) (k := 256) (by omega) (by omega) (by omega) (by omega)
      omega
    have HH := Lib.hid hh
    clear okL hL hh
    go_enter Try.func94, Try.ntmps94
    go_upto_region 0 with fail
    refine wp_region_lit ?_
    try simp only [List.getElem_toArray, List.getElem_cons_zero, List.getElem_cons_succ]
    (refine wpList_boxPx' rfl _ rfl _ rfl ?_; intro b_q7 wn hle hge ht hbn hzn; have hsz := B.size; replace B := B.trans (hbn.mono (by omega)); have hln := Nat.lt_of_lt_of_eq (Nat.lt_succ_self _) hzn.symm; clear hzn; (try first | (have hlt := r0.lt; replace r0 := r0.of_eq (hbn.block _ (by omega))) | replace r0 := r0.below (hbn.mono hle)); (try first | (have hlt := m0.lt; replace m0 := m0.of_eq (hbn.block _ (by omega))) | replace m0 := m0.below (hbn.mono hle)); (try first | (have hlt := ce.lt; replace ce := ce.of_eq (hbn.block _ (by omega))) | replace ce := ce.below (hbn.mono hle)); have q7 := ht; clear ht; simp only [Act.put, putS])
    (refine wpList_allocPx' rfl rfl ?_; intro b_q8 wn hle hge ht hbn hzn; have hsz := B.size; replace B := B.trans (hbn.mono (by omega)); have hln := Nat.lt_of_lt_of_eq (Nat.lt_succ_self _) hzn.symm; clear hzn; (try first | (have hlt := r0.lt; replace r0 := r0.of_eq (hbn.block _ (by omega))) | replace r0 := r0.below (hbn.mono hle)); (try first | (have hlt := m0.lt; replace m0 := m0.of_eq (hbn.block _ (by omega))) | replace m0 := m0.below (hbn.mono hle)); (try first | (have hlt := ce.lt; replace ce := ce.of_eq (hbn.block _ (by omega))) | replace ce := ce.below (hbn.mono hle)); (try first | (have hlt := q7.lt; replace q7 := q7.of_eq (hbn.block _ (by omega))) | replace q7 := q7.below (hbn.mono hle)); have q8 := ht; clear ht; simp only [Act.put, putS])
    refine wpList_nil ?_
    go_upto_region 1 with fail
    refine wp_region_lit ?_
    try simp only [List.getElem_toArray, List.getElem_cons_zero, List.getElem_cons_succ]
    refine wpList_chunk 4 (by kernel_rfl) ?_
    simp only [takS, Nat.reduceAdd]
    repeat (first | go_big_quiet_skip | (go_big_quiet_want; first | (refine quiet_loadAny (t := 64) rfl _ _ _ rfl (fun w hw => run_load_B (ov_B r0 w hw) Try.isAgg64 (by kernel_rfl)) (by rfl) ?_; simp only [Act.put, putS]; go_big_quiet_on) | (refine quiet_loadAny (t := 66) rfl _ _ _ rfl (fun w hw => run_load_slp (imgC_u (ov_B m0 w hw))) (by first | rfl | omega) ?_; simp only [Act.put, putS]; go_big_quiet_on) | (refine quiet_loadAny (t := 37) rfl _ _ _ rfl (fun w hw => rce_px (ov_rce ce w hw) hpx) (by first | rfl | omega) ?_; simp only [Act.put, putS]; go_big_quiet_on) | (refine quiet_loadPx rfl _ rfl (ov_px q7) ?_; simp only [Act.put, putS]; go_big_quiet_on) | (refine quiet_loadAny (t := 3) rfl _ _ _ rfl (fun w hw => run_load_int ((ov_B r0 w hw).cellL 0 rfl)) (by rfl) ?_; simp only [Act.put, putS]; go_big_quiet_on) | (refine quiet_loadAny (t := 3) rfl _ _ _ rfl (fun w hw => run_load_int ((ov_B r0 w hw).cellL 1 rfl)) (by rfl) ?_; simp only [Act.put, putS]; go_big_quiet_on) | (refine quiet_loadAny (t := 3) rfl _ _ _ rfl (fun w hw => run_load_int ((ov_B r0 w hw).cellL 2 rfl)) (by rfl) ?_; simp only [Act.put, putS]; go_big_quiet_on) | (go_big_quiet_op; go_big_quiet_on)))
    refine wpQuiet_nil ?_
    refine wpList_callF (by first | rfl | simp [Region.wanted, yielded]) rfl (enters_of Try.func39 (by kernel_rfl) rfl) (by simp only [List.map_toArray, List.map_cons, List.map_nil, Act.eval, Array.getD_eq_getD_getElem?, List.getElem?_toArray, List.getElem?_cons_succ, List.getElem?_cons_zero, Option.getD_some]; rfl) ?_
    refine (P_HasO c x y true _ HH.out).mono ?_
    rintro e wn ⟨rfl, hbn⟩
    have hsz := B.size
    have hzn := hbn.size
    replace B := B.trans (hbn.mono B.size)
    (try first | replace r0 := r0.of_eq (hbn.block _ r0.lt) | replace r0 := r0.below hbn)
    (try first | replace m0 := m0.of_eq (hbn.block _ m0.lt) | replace m0 := m0.below hbn)
    (try first | replace ce := ce.of_eq (hbn.block _ ce.lt) | replace ce := ce.below hbn)
    (try first | replace q7 := q7.of_eq (hbn.block _ q7.lt) | replace q7 := q7.below hbn)
    (try first | replace q8 := q8.of_eq (hbn.block _ q8.lt) | replace q8 := q8.below hbn)
    refine ⟨_, rfl, ?_⟩
    simp only [Act.put, putS]
    refine wpList_nil ?_
    go_upto_region 2 with fail
    refine wp_region_lit ?_
    try simp only [List.getElem_toArray, List.getElem_cons_zero, List.getElem_cons_succ]
    refine wpList_chunk 19 (by kernel_rfl) ?_
    simp only [takS, Nat.reduceAdd]
    repeat (first | go_big_quiet_skip | (go_big_quiet_want; first | (refine quiet_loadAny (t := 64) rfl _ _ _ rfl (fun w hw => run_load_B (ov_B r0 w hw) Try.isAgg64 (by kernel_rfl)) (by rfl) ?_; simp only [Act.put, putS]; go_big_quiet_on) | (refine quiet_loadAny (t := 66) rfl _ _ _ rfl (fun w hw => run_load_slp (imgC_u (ov_B m0 w hw))) (by first | rfl | omega) ?_; simp only [Act.put, putS]; go_big_quiet_on) | (refine quiet_loadAny (t := 37) rfl _ _ _ rfl (fun w hw => rce_px (ov_rce ce w hw) hpx) (by first | rfl | omega) ?_; simp only [Act.put, putS]; go_big_quiet_on) | (refine quiet_loadPx rfl _ rfl (ov_px q7) ?_; simp only [Act.put, putS]; go_big_quiet_on) | (refine quiet_loadAny (t := 3) rfl _ _ _ rfl (fun w hw => run_load_int ((ov_B r0 w hw).cellL 0 rfl)) (by rfl) ?_; simp only [Act.put, putS]; go_big_quiet_on) | (refine quiet_loadAny (t := 3) rfl _ _ _ rfl (fun w hw => run_load_int ((ov_B r0 w hw).cellL 1 rfl)) (by rfl) ?_; simp only [Act.put, putS]; go_big_quiet_on) | (refine quiet_loadAny (t := 3) rfl _ _ _ rfl (fun w hw => run_load_int ((ov_B r0 w hw).cellL 2 rfl)) (by rfl) ?_; simp only [Act.put, putS]; go_big_quiet_on) | (go_big_quiet_op; go_big_quiet_on)))
    refine wpQuiet_nil ?_
    refine wpList_callF (by first | rfl | simp [Region.wanted, yielded]) rfl (enters_of Try.func95 (by kernel_rfl) rfl) (by simp only [List.map_toArray, List.map_cons, List.map_nil, Act.eval, Array.getD_eq_getD_getElem?, List.getElem?_toArray, List.getElem?_cons_succ, List.getElem?_cons_zero, Option.getD_some]; rfl) ?_
    refine (P_CleanB pp _ hok.out).mono ?_
    rintro e wn ⟨rfl, hbn⟩
    have hsz := B.size
    have hzn := hbn.size
    replace B := B.trans (hbn.mono B.size)
    (try first | replace r0 := r0.of_eq (hbn.block _ r0.lt) | replace r0 := r0.below hbn)
    (try first | replace m0 := m0.of_eq (hbn.block _ m0.lt) | replace m0 := m0.below hbn)
    (try first | replace ce := ce.of_eq (hbn.block _ ce.lt) | replace ce := ce.below hbn)
    (try first | replace q7 := q7.of_eq (hbn.block _ q7.lt) | replace q7 := q7.below hbn)
    (try first | replace q8 := q8.of_eq (hbn.block _ q8.lt) | replace q8 := q8.below hbn)
    refine ⟨_, rfl, ?_⟩
    simp only [Act.put, putS]
    (refine wpList_storePx rfl _ _ rfl _ rfl (_) rfl q8 ?_; clear q8; intro wn ht hcn hzn; have hsz := B.size; replace hzn := Nat.le_of_eq hzn.symm; replace B := Chg.below B hcn (by omega) B.size; (try replace r0 := r0.of_eq (hcn.block _ r0.lt (by omega))); (try replace m0 := m0.of_eq (hcn.block _ m0.lt (by omega))); (try replace ce := ce.of_eq (hcn.block _ ce.lt (by omega))); (try replace q7 := q7.of_eq (hcn.block _ q7.lt (by omega))); have q8 := ht; clear ht; simp only [Act.put, putS])
    refine wpList_nil ?_
    go_wp2
    refine bodyPost_ret (results_px rfl _ _ (b_q8) rfl q8) rfl ?_
    exact ⟨by rw [e1.out], B⟩
  | false =>
    have e1 := Lib.hid (show pstP c L x y p = p from by unfold pstP; rw [hh]; rfl)
    have HH := Lib.hid hh
    clear okL hL hh
    go_enter Try.func94, Try.ntmps94
    go_upto_region 0 with fail
    refine wp_region_lit ?_
    try simp only [List.getElem_toArray, List.getElem_cons_zero, List.getElem_cons_succ]
    (refine wpList_boxPx' rfl _ rfl _ rfl ?_; intro b_q7 wn hle hge ht hbn hzn; have hsz := B.size; replace B := B.trans (hbn.mono (by omega)); have hln := Nat.lt_of_lt_of_eq (Nat.lt_succ_self _) hzn.symm; clear hzn; (try first | (have hlt := r0.lt; replace r0 := r0.of_eq (hbn.block _ (by omega))) | replace r0 := r0.below (hbn.mono hle)); (try first | (have hlt := m0.lt; replace m0 := m0.of_eq (hbn.block _ (by omega))) | replace m0 := m0.below (hbn.mono hle)); (try first | (have hlt := ce.lt; replace ce := ce.of_eq (hbn.block _ (by omega))) | replace ce := ce.below (hbn.mono hle)); (try first | (have hlt := q7.lt; replace q7 := q7.of_eq (hbn.block _ (by omega))) | replace q7 := q7.below (hbn.mono hle)); (try first | (have hlt := q8.lt; replace q8 := q8.of_eq (hbn.block _ (by omega))) | replace q8 := q8.below (hbn.mono hle)); have q7 := ht; clear ht; simp only [Act.put, putS])
    (refine wpList_allocPx' rfl rfl ?_; intro b_q8 wn hle hge ht hbn hzn; have hsz := B.size; replace B := B.trans (hbn.mono (by omega)); have hln := Nat.lt_of_lt_of_eq (Nat.lt_succ_self _) hzn.symm; clear hzn; (try first | (have hlt := r0.lt; replace r0 := r0.of_eq (hbn.block _ (by omega))) | replace r0 := r0.below (hbn.mono hle)); (try first | (have hlt := m0.lt; replace m0 := m0.of_eq (hbn.block _ (by omega))) | replace m0 := m0.below (hbn.mono hle)); (try first | (have hlt := ce.lt; replace ce := ce.of_eq (hbn.block _ (by omega))) | replace ce := ce.below (hbn.mono hle)); (try first | (have hlt := q7.lt; replace q7 := q7.of_eq (hbn.block _ (by omega))) | replace q7 := q7.below (hbn.mono hle)); (try first | (have hlt := q8.lt; replace q8 := q8.of_eq (hbn.block _ (by omega))) | replace q8 := q8.below (hbn.mono hle)); have q8 := ht; clear ht; simp only [Act.put, putS])
    refine wpList_nil ?_
    go_upto_region 1 with fail
    refine wp_region_lit ?_
    try simp only [List.getElem_toArray, List.getElem_cons_zero, List.getElem_cons_succ]
    refine wpList_chunk 4 (by kernel_rfl) ?_
    simp only [takS, Nat.reduceAdd]
    repeat (first | go_big_quiet_skip | (go_big_quiet_want; first | (refine quiet_loadAny (t := 64) rfl _ _ _ rfl (fun w hw => run_load_B (ov_B r0 w hw) Try.isAgg64 (by kernel_rfl)) (by rfl) ?_; simp only [Act.put, putS]; go_big_quiet_on) | (refine quiet_loadAny (t := 66) rfl _ _ _ rfl (fun w hw => run_load_slp (imgC_u (ov_B m0 w hw))) (by first | rfl | omega) ?_; simp only [Act.put, putS]; go_big_quiet_on) | (refine quiet_loadAny (t := 37) rfl _ _ _ rfl (fun w hw => rce_px (ov_rce ce w hw) hpx) (by first | rfl | omega) ?_; simp only [Act.put, putS]; go_big_quiet_on) | (refine quiet_loadPx rfl _ rfl (ov_px q7) ?_; simp only [Act.put, putS]; go_big_quiet_on) | (refine quiet_loadAny (t := 3) rfl _ _ _ rfl (fun w hw => run_load_int ((ov_B r0 w hw).cellL 0 rfl)) (by rfl) ?_; simp only [Act.put, putS]; go_big_quiet_on) | (refine quiet_loadAny (t := 3) rfl _ _ _ rfl (fun w hw => run_load_int ((ov_B r0 w hw).cellL 1 rfl)) (by rfl) ?_; simp only [Act.put, putS]; go_big_quiet_on) | (refine quiet_loadAny (t := 3) rfl _ _ _ rfl (fun w hw => run_load_int ((ov_B r0 w hw).cellL 2 rfl)) (by rfl) ?_; simp only [Act.put, putS]; go_big_quiet_on) | (go_big_quiet_op; go_big_quiet_on)))
    refine wpQuiet_nil ?_
    refine wpList_callF (by first | rfl | simp [Region.wanted, yielded]) rfl (enters_of Try.func39 (by kernel_rfl) rfl) (by simp only [List.map_toArray, List.map_cons, List.map_nil, Act.eval, Array.getD_eq_getD_getElem?, List.getElem?_toArray, List.getElem?_cons_succ, List.getElem?_cons_zero, Option.getD_some]; rfl) ?_
    refine (P_HasO c x y false _ HH.out).mono ?_
    rintro e wn ⟨rfl, hbn⟩
    have hsz := B.size
    have hzn := hbn.size
    replace B := B.trans (hbn.mono B.size)
    (try first | replace r0 := r0.of_eq (hbn.block _ r0.lt) | replace r0 := r0.below hbn)
    (try first | replace m0 := m0.of_eq (hbn.block _ m0.lt) | replace m0 := m0.below hbn)
    (try first | replace ce := ce.of_eq (hbn.block _ ce.lt) | replace ce := ce.below hbn)
    (try first | replace q7 := q7.of_eq (hbn.block _ q7.lt) | replace q7 := q7.below hbn)
    (try first | replace q8 := q8.of_eq (hbn.block _ q8.lt) | replace q8 := q8.below hbn)
    refine ⟨_, rfl, ?_⟩
    simp only [Act.put, putS]
    refine wpList_nil ?_
    go_upto_region 3 with fail
    refine wp_region_lit ?_
    try simp only [List.getElem_toArray, List.getElem_cons_zero, List.getElem_cons_succ]
    refine wpList_chunk 1 (by kernel_rfl) ?_
    simp only [takS, Nat.reduceAdd]
    repeat (first | go_big_quiet_skip | (go_big_quiet_want; first | (refine quiet_loadAny (t := 64) rfl _ _ _ rfl (fun w hw => run_load_B (ov_B r0 w hw) Try.isAgg64 (by kernel_rfl)) (by rfl) ?_; simp only [Act.put, putS]; go_big_quiet_on) | (refine quiet_loadAny (t := 66) rfl _ _ _ rfl (fun w hw => run_load_slp (imgC_u (ov_B m0 w hw))) (by first | rfl | omega) ?_; simp only [Act.put, putS]; go_big_quiet_on) | (refine quiet_loadAny (t := 37) rfl _ _ _ rfl (fun w hw => rce_px (ov_rce ce w hw) hpx) (by first | rfl | omega) ?_; simp only [Act.put, putS]; go_big_quiet_on) | (refine quiet_loadPx rfl _ rfl (ov_px q7) ?_; simp only [Act.put, putS]; go_big_quiet_on) | (refine quiet_loadAny (t := 3) rfl _ _ _ rfl (fun w hw => run_load_int ((ov_B r0 w hw).cellL 0 rfl)) (by rfl) ?_; simp only [Act.put, putS]; go_big_quiet_on) | (refine quiet_loadAny (t := 3) rfl _ _ _ rfl (fun w hw => run_load_int ((ov_B r0 w hw).cellL 1 rfl)) (by rfl) ?_; simp only [Act.put, putS]; go_big_quiet_on) | (refine quiet_loadAny (t := 3) rfl _ _ _ rfl (fun w hw => run_load_int ((ov_B r0 w hw).cellL 2 rfl)) (by rfl) ?_; simp only [Act.put, putS]; go_big_quiet_on) | (go_big_quiet_op; go_big_quiet_on)))
    refine wpQuiet_nil ?_
    (refine wpList_storePx rfl _ _ rfl _ rfl (_) rfl q8 ?_; clear q8; intro wn ht hcn hzn; have hsz := B.size; replace hzn := Nat.le_of_eq hzn.symm; replace B := Chg.below B hcn (by omega) B.size; (try replace r0 := r0.of_eq (hcn.block _ r0.lt (by omega))); (try replace m0 := m0.of_eq (hcn.block _ m0.lt (by omega))); (try replace ce := ce.of_eq (hcn.block _ ce.lt (by omega))); (try replace q7 := q7.of_eq (hcn.block _ q7.lt (by omega))); have q8 := ht; clear ht; simp only [Act.put, putS])
    refine wpList_nil ?_
    go_wp2
    refine bodyPost_ret (results_px rfl _ _ (b_q8) rfl q8) rfl ?_
    exact ⟨by rw [e1.out], B⟩
theorem P_Tiles (c : Rc) (w : World) : Calls Try.prog 92 #[.agg (rcA c)] w fun e w' => ∃ b, e = .returned (.func (.func 108) #[] #[.pointer (some ⟨b, 0, none⟩)]) ∧ w.heap.size ≤ b ∧ AtB 64 w' b (rcA c) ∧ Below w.heap.size w w' := by
  have B := Below.refl w.heap.size w
  go_enter Try.func92, Try.ntmps92
  go_upto_region 0 with fail
  refine wp_region_lit ?_
  try simp only [List.getElem_toArray, List.getElem_cons_zero, List.getElem_cons_succ]
  (refine wpList_boxB (t := 64) rfl _ rfl _ rfl ?_; intro b_r1 wn hle hge ht hbn hzn; have hsz := B.size; replace B := B.trans (hbn.mono (by omega)); have hln := Nat.lt_of_lt_of_eq (Nat.lt_succ_self _) hzn.symm; clear hzn; have r1 := ht; clear ht; simp only [Act.put, putS])
  refine wpList_chunk 1 (by kernel_rfl) ?_
  simp only [takS, Nat.reduceAdd]
  repeat (first | go_big_quiet_skip | (go_big_quiet_want; first | (go_big_quiet_op; go_big_quiet_on)))
  refine wpQuiet_nil ?_
  refine wpList_nil ?_
  go_wp2
  go_ret
  exact ⟨_, rfl, by omega, r1, B⟩
end Go.Proofs.Ytppccnjckiedlaa
/- Image of both packages, whether the rectangle fits or not. -/
namespace Go.Proofs.Ytppccnjckiedlaa
open Go.RowKit Go.Shelf Pl
set_option linter.unusedVariables false
set_option linter.unusedSimpArgs false
set_option maxRecDepth 20000
def imR (c : Rc) : Rc := if fitsE c = 0 then c else Rc.zero
def imLs (c : Rc) (ks : List TA) : List Px := if fitsE c = 0 then imgL c ks else []
theorem near_fits (c : Rc) : fitsE (nearR c) = 0 := by
  have := nearR_bd c
  unfold fitsE
  rw [if_pos ((validR_iff _).2 ⟨⟨by omega, by omega⟩, by omega, by omega, by omega, by omega⟩), if_neg (by omega)]
end Go.Proofs.Ytppccnjckiedlaa
/- Contract of Paste of package raster. -/
namespace Go.Proofs.Ytppccnjckiedlaa
open Go.RowKit Go.Shelf Pl
attribute [local go_sem] Oper.semAt_some
set_option linter.unusedVariables false
set_option linter.unusedSimpArgs false
set_option maxRecDepth 20000
theorem run_load_imR {w : World} {b : Nat} {c : Rc} {u : Value} (h : AtB 68 w b (imgC c u)) : (Instr.loadAt 64 (.pointer (some ⟨b, 0, none⟩))).run Try.prog w = .ok (.agg (rcA c)) w :=
  run_load_BP (cs' := rcA c) h 0 Try.isAgg64 (by kernel_rfl) (fun j hj => by
    have hj : j < 4 := hj
    have hc : j = 0 ∨ j = 1 ∨ j = 2 ∨ j = 3 := by omega
    rcases hc with rfl | rfl | rfl | rfl <;> rfl)
theorem P_ValidRB (r : Rc) (b : Bool) (w : World) (e : validR r = b) : Calls Try.prog 91 #[.agg (rcA r)] w fun e w' => e = .returned (.bool b) ∧ Below w.heap.size w w' := e ▸ P_ValidR r w
theorem P_AreaB (r : Rc) (n : Int) (w : World) (h : validR r = true) (e : areaR r = n) : Calls Try.prog 78 #[.agg (rcA r)] w fun e w' => e = .returned (.int .i64 n) ∧ Below w.heap.size w w' := e ▸ P_Area r w h
theorem P_fitsB (c : Rc) (n : Int) (w : World) (e : fitsE c = n) : Calls Try.prog 77 #[.agg (rcA c)] w fun e w' => e = .returned (.int .i64 n) ∧ Below w.heap.size w w' := e ▸ P_fits c w
set_option maxHeartbeats 4000000 in
theorem P_Paste_inv (v : Value) (ls : List TA) (c : Rc) (ad : Option Addr) (n cp : Nat) (w : World) (h : RS v ls w) (hn : n ≤ maxLen) (hV0 : validR c = false) : Calls Try.prog 48 #[.agg #[v], .agg (imgC c (.slice ad n cp))] w fun e w' => e = .returned (.tuple #[.agg #[.slice none 0 0], .int .i64 1]) ∧ Below w.heap.size w w' := by
  have B := Below.refl w.heap.size w
  obtain ⟨a, cpv, rfl, hc⟩ := h.len
  clear h
  go_enter Try.func48, Try.ntmps48
  go_upto_region 0 with fail
  refine wp_region_lit ?_
  try simp only [List.getElem_toArray, List.getElem_cons_zero, List.getElem_cons_succ]
  (refine wpList_boxB (t := 30) rfl _ rfl _ rfl ?_; intro b_r2 wn hle hge ht hbn hzn; have hsz := B.size; replace B := B.trans (hbn.mono (by omega)); have hln := Nat.lt_of_lt_of_eq (Nat.lt_succ_self _) hzn.symm; clear hzn; have r2 := ht; clear ht; simp only [Act.put, putS])
  (refine wpList_boxB (t := 68) rfl _ rfl _ rfl ?_; intro b_m3 wn hle hge ht hbn hzn; have hsz := B.size; replace B := B.trans (hbn.mono (by omega)); have hln := Nat.lt_of_lt_of_eq (Nat.lt_succ_self _) hzn.symm; clear hzn; (try first | (have hlt := r2.lt; replace r2 := r2.of_eq (hbn.block _ (by omega))) | replace r2 := r2.below (hbn.mono hle)); have m3 := ht; clear ht; simp only [Act.put, putS])
  (refine wpList_allocBk (t := 30) rfl _ (run_alloc_R _ _ rfl) ?_; intro b_r4 wn hle hge ht hbn hzn; have hsz := B.size; replace B := B.trans (hbn.mono (by omega)); have hln := Nat.lt_of_lt_of_eq (Nat.lt_succ_self _) hzn.symm; clear hzn; (try first | (have hlt := r2.lt; replace r2 := r2.of_eq (hbn.block _ (by omega))) | replace r2 := r2.below (hbn.mono hle)); (try first | (have hlt := m3.lt; replace m3 := m3.of_eq (hbn.block _ (by omega))) | replace m3 := m3.below (hbn.mono hle)); have r4 := ht; clear ht; simp only [Act.put, putS])
  refine wpList_chunk 1 (by kernel_rfl) ?_
  simp only [takS, Nat.reduceAdd]
  repeat (first | go_big_quiet_skip | (go_big_quiet_want; first | (refine quiet_loadAny (t := 64) rfl _ _ _ rfl (fun w hw => run_load_imR (ov_B m3 w hw)) (by first | rfl | omega) ?_; simp only [Act.put, putS]; go_big_quiet_on) | (refine quiet_loadAny (t := 66) rfl _ _ _ rfl (fun w hw => run_load_slp (imgC_u (ov_B m3 w hw))) (by first | rfl | omega) ?_; simp only [Act.put, putS]; go_big_quiet_on) | (refine quiet_loadAny (t := 30) rfl _ _ _ rfl (fun w hw => run_load_B (ov_B r2 w hw) Try.isAgg30 (by kernel_rfl)) (by rfl) ?_; simp only [Act.put, putS]; go_big_quiet_on) | (refine quiet_loadAny (t := 64) rfl _ _ _ rfl (fun w hw => run_load_B (ov_B c6 w hw) Try.isAgg64 (by kernel_rfl)) (by rfl) ?_; simp only [Act.put, putS]; go_big_quiet_on) | (go_big_quiet_op; go_big_quiet_on)))
  refine wpQuiet_nil ?_
  refine wpList_nil ?_
  go_upto_region 1 with fail
  refine wp_region_lit ?_
  try simp only [List.getElem_toArray, List.getElem_cons_zero, List.getElem_cons_succ]
  refine wpList_chunk 2 (by kernel_rfl) ?_
  simp only [takS, Nat.reduceAdd]
  repeat (first | go_big_quiet_skip | (go_big_quiet_want; first | (refine quiet_loadAny (t := 64) rfl _ _ _ rfl (fun w hw => run_load_imR (ov_B m3 w hw)) (by first | rfl | omega) ?_; simp only [Act.put, putS]; go_big_quiet_on) | (refine quiet_loadAny (t := 66) rfl _ _ _ rfl (fun w hw => run_load_slp (imgC_u (ov_B m3 w hw))) (by first | rfl | omega) ?_; simp only [Act.put, putS]; go_big_quiet_on) | (refine quiet_loadAny (t := 30) rfl _ _ _ rfl (fun w hw => run_load_B (ov_B r2 w hw) Try.isAgg30 (by kernel_rfl)) (by rfl) ?_; simp only [Act.put, putS]; go_big_quiet_on) | (refine quiet_loadAny (t := 64) rfl _ _ _ rfl (fun w hw => run_load_B (ov_B c6 w hw) Try.isAgg64 (by kernel_rfl)) (by rfl) ?_; simp only [Act.put, putS]; go_big_quiet_on) | (go_big_quiet_op; go_big_quiet_on)))
  refine wpQuiet_nil ?_
  (refine wpList_allocBk (t := 64) rfl _ (run_alloc_Rc _ _ rfl) ?_; intro b_c6 wn hle hge ht hbn hzn; have hsz := B.size; replace B := B.trans (hbn.mono (by omega)); have hln := Nat.lt_of_lt_of_eq (Nat.lt_succ_self _) hzn.symm; clear hzn; (try first | (have hlt := r2.lt; replace r2 := r2.of_eq (hbn.block _ (by omega))) | replace r2 := r2.below (hbn.mono hle)); (try first | (have hlt := m3.lt; replace m3 := m3.of_eq (hbn.block _ (by omega))) | replace m3 := m3.below (hbn.mono hle)); (try first | (have hlt := r4.lt; replace r4 := r4.of_eq (hbn.block _ (by omega))) | replace r4 := r4.below (hbn.mono hle)); (try first | (have hlt := c6.lt; replace c6 := c6.of_eq (hbn.block _ (by omega))) | replace c6 := c6.below (hbn.mono hle)); have c6 := ht; clear ht; simp only [Act.put, putS])
  (refine wpList_storeB (t := 64) rfl _ _ rfl _ rfl _ rfl c6 (by kernel_rfl) rfl (by simp [rcA, imgC, Value.oneCell']) ?_; clear c6; intro wn ht hcn hzn; have hsz := B.size; replace hzn := Nat.le_of_eq hzn.symm; replace B := Chg.below B hcn (by omega) B.size; (try replace r2 := r2.of_eq (hcn.block _ r2.lt (by omega))); (try replace m3 := m3.of_eq (hcn.block _ m3.lt (by omega))); (try replace r4 := r4.of_eq (hcn.block _ r4.lt (by omega))); have c6 := ht; clear ht; simp only [Act.put, putS])
  refine wpList_nil ?_
  replace c6 : AtB 64 _ b_c6 (rcA c) := c6
  go_upto_region 2 with fail
  try simp only [List.getElem_toArray, List.getElem_cons_zero, List.getElem_cons_succ]
  try have lx_r2 := r2.lt
  try have lx_m3 := m3.lt
  try have lx_r4 := r4.lt
  try have lx_c6 := c6.lt
  refine wp_region_RL 11 [(1, detS ?v1_1)] (by kernel_rfl) (by kernel_rfl) (by kernel_rfl) ?_
  rotate_left 1
  simp only [takS, Nat.reduceAdd]
  refine wpRL_chunk 1 (by kernel_rfl) ?_
  simp only [takS, Nat.reduceAdd]
  repeat (first | go_big_quiet_skip | (go_big_quiet_want; first | (refine quiet_loadAny (t := 64) rfl _ _ _ rfl (fun w hw => run_load_imR (ov_B m3 w hw)) (by first | rfl | omega) ?_; simp only [Act.put, putS]; go_big_quiet_on) | (refine quiet_loadAny (t := 66) rfl _ _ _ rfl (fun w hw => run_load_slp (imgC_u (ov_B m3 w hw))) (by first | rfl | omega) ?_; simp only [Act.put, putS]; go_big_quiet_on) | (refine quiet_loadAny (t := 30) rfl _ _ _ rfl (fun w hw => run_load_B (ov_B r2 w hw) Try.isAgg30 (by kernel_rfl)) (by rfl) ?_; simp only [Act.put, putS]; go_big_quiet_on) | (refine quiet_loadAny (t := 64) rfl _ _ _ rfl (fun w hw => run_load_B (ov_B c6 w hw) Try.isAgg64 (by kernel_rfl)) (by rfl) ?_; simp only [Act.put, putS]; go_big_quiet_on) | (go_big_quiet_op; go_big_quiet_on)))
  refine wpQuiet_nil ?_
  refine wpRL_callB (by rfl) (by first | rfl | simp [Region.wanted, yielded]) ?_ ?_
  · intro wn hbn hE Kx hKx
    have hsz := B.size
    have hzn := hbn.size
    replace B := B.trans (hbn.mono B.size)
    (try first | replace r2 := r2.of_eq (hbn.block _ r2.lt) | replace r2 := r2.below hbn)
    (try first | replace m3 := m3.of_eq (hbn.block _ m3.lt) | replace m3 := m3.below hbn)
    (try first | replace r4 := r4.of_eq (hbn.block _ r4.lt) | replace r4 := r4.below hbn)
    (try first | replace c6 := c6.of_eq (hbn.block _ c6.lt) | replace c6 := c6.below hbn)
    refine wp_callF rfl (enters_of Try.func91 (by kernel_rfl) rfl) (by simp only [List.map_toArray, List.map_cons, List.map_nil, Act.eval, Array.getD_eq_getD_getElem?, List.getElem?_toArray, List.getElem?_cons_succ, List.getElem?_cons_zero, Option.getD_some]; rfl) ?_
    refine (P_ValidRB c false _ hV0).mono ?_
    rintro e wm ⟨rfl, hbm⟩
    refine ⟨_, rfl, ?_⟩
    have hz := hKx () wm trivial hbm
    dsimp only [detS] at hz
    exact hz
  rintro ⟨⟩
  dsimp only [detS]
  simp only [Act.put, putS]
  refine wpRL_chunk 4 (by kernel_rfl) ?_
  simp only [takS, Nat.reduceAdd]
  repeat (first | go_big_quiet_skip | (go_big_quiet_want; first | (refine quiet_loadAny (t := 64) rfl _ _ _ rfl (fun w hw => run_load_imR (ov_B m3 w hw)) (by first | rfl | omega) ?_; simp only [Act.put, putS]; go_big_quiet_on) | (refine quiet_loadAny (t := 66) rfl _ _ _ rfl (fun w hw => run_load_slp (imgC_u (ov_B m3 w hw))) (by first | rfl | omega) ?_; simp only [Act.put, putS]; go_big_quiet_on) | (refine quiet_loadAny (t := 30) rfl _ _ _ rfl (fun w hw => run_load_B (ov_B r2 w hw) Try.isAgg30 (by kernel_rfl)) (by rfl) ?_; simp only [Act.put, putS]; go_big_quiet_on) | (refine quiet_loadAny (t := 64) rfl _ _ _ rfl (fun w hw => run_load_B (ov_B c6 w hw) Try.isAgg64 (by kernel_rfl)) (by rfl) ?_; simp only [Act.put, putS]; go_big_quiet_on) | (go_big_quiet_op; go_big_quiet_on)))
  refine wpQuiet_nil ?_
  refine wpRL_skip (by first | rfl | simp [Region.wanted, yielded]) ?_
  simp only [Act.put, putS]
  refine wpRL_chunk 1 (by kernel_rfl) ?_
  simp only [takS, Nat.reduceAdd]
  repeat (first | go_big_quiet_skip | (go_big_quiet_want; first | (refine quiet_loadAny (t := 64) rfl _ _ _ rfl (fun w hw => run_load_imR (ov_B m3 w hw)) (by first | rfl | omega) ?_; simp only [Act.put, putS]; go_big_quiet_on) | (refine quiet_loadAny (t := 66) rfl _ _ _ rfl (fun w hw => run_load_slp (imgC_u (ov_B m3 w hw))) (by first | rfl | omega) ?_; simp only [Act.put, putS]; go_big_quiet_on) | (refine quiet_loadAny (t := 30) rfl _ _ _ rfl (fun w hw => run_load_B (ov_B r2 w hw) Try.isAgg30 (by kernel_rfl)) (by rfl) ?_; simp only [Act.put, putS]; go_big_quiet_on) | (refine quiet_loadAny (t := 64) rfl _ _ _ rfl (fun w hw => run_load_B (ov_B c6 w hw) Try.isAgg64 (by kernel_rfl)) (by rfl) ?_; simp only [Act.put, putS]; go_big_quiet_on) | (go_big_quiet_op; go_big_quiet_on)))
  refine wpQuiet_nil ?_
  refine wpRL_skip (by first | rfl | simp [Region.wanted, yielded]) ?_
  simp only [Act.put, putS]
  refine wpRL_chunk 2 (by kernel_rfl) ?_
  simp only [takS, Nat.reduceAdd]
  repeat (first | go_big_quiet_skip | (go_big_quiet_want; first | (refine quiet_loadAny (t := 64) rfl _ _ _ rfl (fun w hw => run_load_imR (ov_B m3 w hw)) (by first | rfl | omega) ?_; simp only [Act.put, putS]; go_big_quiet_on) | (refine quiet_loadAny (t := 66) rfl _ _ _ rfl (fun w hw => run_load_slp (imgC_u (ov_B m3 w hw))) (by first | rfl | omega) ?_; simp only [Act.put, putS]; go_big_quiet_on) | (refine quiet_loadAny (t := 30) rfl _ _ _ rfl (fun w hw => run_load_B (ov_B r2 w hw) Try.isAgg30 (by kernel_rfl)) (by rfl) ?_; simp only [Act.put, putS]; go_big_quiet_on) | (refine quiet_loadAny (t := 64) rfl _ _ _ rfl (fun w hw => run_load_B (ov_B c6 w hw) Try.isAgg64 (by kernel_rfl)) (by rfl) ?_; simp only [Act.put, putS]; go_big_quiet_on) | (go_big_quiet_op; go_big_quiet_on)))
  refine wpQuiet_nil ?_
  refine wpRL_nil ?_
  intro wn hbn hE
  have hsz := B.size
  have hzn := hbn.size
  replace B := B.trans (hbn.mono B.size)
  (try first | replace r2 := r2.of_eq (hbn.block _ r2.lt) | replace r2 := r2.below hbn)
  (try first | replace m3 := m3.of_eq (hbn.block _ m3.lt) | replace m3 := m3.below hbn)
  (try first | replace r4 := r4.of_eq (hbn.block _ r4.lt) | replace r4 := r4.below hbn)
  (try first | replace c6 := c6.of_eq (hbn.block _ c6.lt) | replace c6 := c6.below hbn)
  clear hE
  try simp only [List.drop_succ_cons, List.drop_zero]
  refine NoPan.normal ?_
  go_upto_region 3 with fail
  refine wp_region_lit ?_
  try simp only [List.getElem_toArray, List.getElem_cons_zero, List.getElem_cons_succ]
  refine wpList_chunk 1 (by kernel_rfl) ?_
  simp only [takS, Nat.reduceAdd]
  repeat (first | go_big_quiet_skip | (go_big_quiet_want; first | (refine quiet_loadAny (t := 64) rfl _ _ _ rfl (fun w hw => run_load_imR (ov_B m3 w hw)) (by first | rfl | omega) ?_; simp only [Act.put, putS]; go_big_quiet_on) | (refine quiet_loadAny (t := 66) rfl _ _ _ rfl (fun w hw => run_load_slp (imgC_u (ov_B m3 w hw))) (by first | rfl | omega) ?_; simp only [Act.put, putS]; go_big_quiet_on) | (refine quiet_loadAny (t := 30) rfl _ _ _ rfl (fun w hw => run_load_B (ov_B r2 w hw) Try.isAgg30 (by kernel_rfl)) (by rfl) ?_; simp only [Act.put, putS]; go_big_quiet_on) | (refine quiet_loadAny (t := 64) rfl _ _ _ rfl (fun w hw => run_load_B (ov_B c6 w hw) Try.isAgg64 (by kernel_rfl)) (by rfl) ?_; simp only [Act.put, putS]; go_big_quiet_on) | (go_big_quiet_op; go_big_quiet_on)))
  refine wpQuiet_nil ?_
  (refine wpList_storeB (t := 30) rfl _ _ rfl _ rfl _ rfl r4 (by kernel_rfl) rfl (by simp [rcA, imgC, Value.oneCell']) ?_; clear r4; intro wn ht hcn hzn; have hsz := B.size; replace hzn := Nat.le_of_eq hzn.symm; replace B := Chg.below B hcn (by omega) B.size; (try replace r2 := r2.of_eq (hcn.block _ r2.lt (by omega))); (try replace m3 := m3.of_eq (hcn.block _ m3.lt (by omega))); (try replace c6 := c6.of_eq (hcn.block _ c6.lt (by omega))); have r4 := ht; clear ht; simp only [Act.put, putS])
  refine wpList_chunk 1 (by kernel_rfl) ?_
  simp only [takS, Nat.reduceAdd]
  repeat (first | go_big_quiet_skip | (go_big_quiet_want; first | (refine quiet_loadAny (t := 64) rfl _ _ _ rfl (fun w hw => run_load_imR (ov_B m3 w hw)) (by first | rfl | omega) ?_; simp only [Act.put, putS]; go_big_quiet_on) | (refine quiet_loadAny (t := 66) rfl _ _ _ rfl (fun w hw => run_load_slp (imgC_u (ov_B m3 w hw))) (by first | rfl | omega) ?_; simp only [Act.put, putS]; go_big_quiet_on) | (refine quiet_loadAny (t := 30) rfl _ _ _ rfl (fun w hw => run_load_B (ov_B r2 w hw) Try.isAgg30 (by kernel_rfl)) (by rfl) ?_; simp only [Act.put, putS]; go_big_quiet_on) | (refine quiet_loadAny (t := 64) rfl _ _ _ rfl (fun w hw => run_load_B (ov_B c6 w hw) Try.isAgg64 (by kernel_rfl)) (by rfl) ?_; simp only [Act.put, putS]; go_big_quiet_on) | (go_big_quiet_op; go_big_quiet_on)))
  refine wpQuiet_nil ?_
  refine wpList_nil ?_
  go_wp2
  refine bodyPost_ret (results_B2 (t := 30) rfl _ _ (b_r4) rfl _ rfl r4 Try.isAgg30 (by kernel_rfl)) rfl ?_
  exact ⟨rfl, B⟩
set_option maxHeartbeats 4000000 in
theorem P_Paste_len (v : Value) (ls : List TA) (c : Rc) (ad : Option Addr) (n cp : Nat) (w : World) (h : RS v ls w) (hn : n ≤ maxLen) (hV0 : validR c = true) (A : Int) (hA : areaR c = A) (hlen : ¬ (n : Int) = A) : Calls Try.prog 48 #[.agg #[v], .agg (imgC c (.slice ad n cp))] w fun e w' => e = .returned (.tuple #[.agg #[.slice none 0 0], .int .i64 1]) ∧ Below w.heap.size w w' := by
  have B := Below.refl w.heap.size w
  obtain ⟨a, cpv, rfl, hc⟩ := h.len
  have d1 : ((n : Int) != A) = true := by simpa using hlen
  have HA := Lib.hid hA
  clear h hA
  go_enter Try.func48, Try.ntmps48
  go_upto_region 0 with fail
  refine wp_region_lit ?_
  try simp only [List.getElem_toArray, List.getElem_cons_zero, List.getElem_cons_succ]
  (refine wpList_boxB (t := 30) rfl _ rfl _ rfl ?_; intro b_r2 wn hle hge ht hbn hzn; have hsz := B.size; replace B := B.trans (hbn.mono (by omega)); have hln := Nat.lt_of_lt_of_eq (Nat.lt_succ_self _) hzn.symm; clear hzn; have r2 := ht; clear ht; simp only [Act.put, putS])
  (refine wpList_boxB (t := 68) rfl _ rfl _ rfl ?_; intro b_m3 wn hle hge ht hbn hzn; have hsz := B.size; replace B := B.trans (hbn.mono (by omega)); have hln := Nat.lt_of_lt_of_eq (Nat.lt_succ_self _) hzn.symm; clear hzn; (try first | (have hlt := r2.lt; replace r2 := r2.of_eq (hbn.block _ (by omega))) | replace r2 := r2.below (hbn.mono hle)); have m3 := ht; clear ht; simp only [Act.put, putS])
  (refine wpList_allocBk (t := 30) rfl _ (run_alloc_R _ _ rfl) ?_; intro b_r4 wn hle hge ht hbn hzn; have hsz := B.size; replace B := B.trans (hbn.mono (by omega)); have hln := Nat.lt_of_lt_of_eq (Nat.lt_succ_self _) hzn.symm; clear hzn; (try first | (have hlt := r2.lt; replace r2 := r2.of_eq (hbn.block _ (by omega))) | replace r2 := r2.below (hbn.mono hle)); (try first | (have hlt := m3.lt; replace m3 := m3.of_eq (hbn.block _ (by omega))) | replace m3 := m3.below (hbn.mono hle)); have r4 := ht; clear ht; simp only [Act.put, putS])
  refine wpList_chunk 1 (by kernel_rfl) ?_
  simp only [takS, Nat.reduceAdd]
  repeat (first | go_big_quiet_skip | (go_big_quiet_want; first | (refine quiet_loadAny (t := 64) rfl _ _ _ rfl (fun w hw => run_load_imR (ov_B m3 w hw)) (by first | rfl | omega) ?_; simp only [Act.put, putS]; go_big_quiet_on) | (refine quiet_loadAny (t := 66) rfl _ _ _ rfl (fun w hw => run_load_slp (imgC_u (ov_B m3 w hw))) (by first | rfl | omega) ?_; simp only [Act.put, putS]; go_big_quiet_on) | (refine quiet_loadAny (t := 30) rfl _ _ _ rfl (fun w hw => run_load_B (ov_B r2 w hw) Try.isAgg30 (by kernel_rfl)) (by rfl) ?_; simp only [Act.put, putS]; go_big_quiet_on) | (refine quiet_loadAny (t := 64) rfl _ _ _ rfl (fun w hw => run_load_B (ov_B c6 w hw) Try.isAgg64 (by kernel_rfl)) (by rfl) ?_; simp only [Act.put, putS]; go_big_quiet_on) | (go_big_quiet_op; go_big_quiet_on)))
  refine wpQuiet_nil ?_
  refine wpList_nil ?_
  go_upto_region 1 with fail
  refine wp_region_lit ?_
  try simp only [List.getElem_toArray, List.getElem_cons_zero, List.getElem_cons_succ]
  refine wpList_chunk 2 (by kernel_rfl) ?_
  simp only [takS, Nat.reduceAdd]
  repeat (first | go_big_quiet_skip | (go_big_quiet_want; first | (refine quiet_loadAny (t := 64) rfl _ _ _ rfl (fun w hw => run_load_imR (ov_B m3 w hw)) (by first | rfl | omega) ?_; simp only [Act.put, putS]; go_big_quiet_on) | (refine quiet_loadAny (t := 66) rfl _ _ _ rfl (fun w hw => run_load_slp (imgC_u (ov_B m3 w hw))) (by first | rfl | omega) ?_; simp only [Act.put, putS]; go_big_quiet_on) | (refine quiet_loadAny (t := 30) rfl _ _ _ rfl (fun w hw => run_load_B (ov_B r2 w hw) Try.isAgg30 (by kernel_rfl)) (by rfl) ?_; simp only [Act.put, putS]; go_big_quiet_on) | (refine quiet_loadAny (t := 64) rfl _ _ _ rfl (fun w hw => run_load_B (ov_B c6 w hw) Try.isAgg64 (by kernel_rfl)) (by rfl) ?_; simp only [Act.put, putS]; go_big_quiet_on) | (go_big_quiet_op; go_big_quiet_on)))
  refine wpQuiet_nil ?_
  (refine wpList_allocBk (t := 64) rfl _ (run_alloc_Rc _ _ rfl) ?_; intro b_c6 wn hle hge ht hbn hzn; have hsz := B.size; replace B := B.trans (hbn.mono (by omega)); have hln := Nat.lt_of_lt_of_eq (Nat.lt_succ_self _) hzn.symm; clear hzn; (try first | (have hlt := r2.lt; replace r2 := r2.of_eq (hbn.block _ (by omega))) | replace r2 := r2.below (hbn.mono hle)); (try first | (have hlt := m3.lt; replace m3 := m3.of_eq (hbn.block _ (by omega))) | replace m3 := m3.below (hbn.mono hle)); (try first | (have hlt := r4.lt; replace r4 := r4.of_eq (hbn.block _ (by omega))) | replace r4 := r4.below (hbn.mono hle)); (try first | (have hlt := c6.lt; replace c6 := c6.of_eq (hbn.block _ (by omega))) | replace c6 := c6.below (hbn.mono hle)); have c6 := ht; clear ht; simp only [Act.put, putS])
  (refine wpList_storeB (t := 64) rfl _ _ rfl _ rfl _ rfl c6 (by kernel_rfl) rfl (by simp [rcA, imgC, Value.oneCell']) ?_; clear c6; intro wn ht hcn hzn; have hsz := B.size; replace hzn := Nat.le_of_eq hzn.symm; replace B := Chg.below B hcn (by omega) B.size; (try replace r2 := r2.of_eq (hcn.block _ r2.lt (by omega))); (try replace m3 := m3.of_eq (hcn.block _ m3.lt (by omega))); (try replace r4 := r4.of_eq (hcn.block _ r4.lt (by omega))); have c6 := ht; clear ht; simp only [Act.put, putS])
  refine wpList_nil ?_
  replace c6 : AtB 64 _ b_c6 (rcA c) := c6
  go_upto_region 2 with fail
  try simp only [List.getElem_toArray, List.getElem_cons_zero, List.getElem_cons_succ]
  try have lx_r2 := r2.lt
  try have lx_m3 := m3.lt
  try have lx_r4 := r4.lt
  try have lx_c6 := c6.lt
  refine wp_region_RL 11 [(1, detS ?v2_1), (6, detS ?v2_6), (8, detS ?v2_8)] (by kernel_rfl) (by kernel_rfl) (by kernel_rfl) ?_
  rotate_left 3
  simp only [takS, Nat.reduceAdd]
  refine wpRL_chunk 1 (by kernel_rfl) ?_
  simp only [takS, Nat.reduceAdd]
  repeat (first | go_big_quiet_skip | (go_big_quiet_want; first | (refine quiet_loadAny (t := 64) rfl _ _ _ rfl (fun w hw => run_load_imR (ov_B m3 w hw)) (by first | rfl | omega) ?_; simp only [Act.put, putS]; go_big_quiet_on) | (refine quiet_loadAny (t := 66) rfl _ _ _ rfl (fun w hw => run_load_slp (imgC_u (ov_B m3 w hw))) (by first | rfl | omega) ?_; simp only [Act.put, putS]; go_big_quiet_on) | (refine quiet_loadAny (t := 30) rfl _ _ _ rfl (fun w hw => run_load_B (ov_B r2 w hw) Try.isAgg30 (by kernel_rfl)) (by rfl) ?_; simp only [Act.put, putS]; go_big_quiet_on) | (refine quiet_loadAny (t := 64) rfl _ _ _ rfl (fun w hw => run_load_B (ov_B c6 w hw) Try.isAgg64 (by kernel_rfl)) (by rfl) ?_; simp only [Act.put, putS]; go_big_quiet_on) | (go_big_quiet_op; go_big_quiet_on)))
  refine wpQuiet_nil ?_
  refine wpRL_callB (by rfl) (by first | rfl | simp [Region.wanted, yielded]) ?_ ?_
  · intro wn hbn hE Kx hKx
    have hsz := B.size
    have hzn := hbn.size
    replace B := B.trans (hbn.mono B.size)
    (try first | replace r2 := r2.of_eq (hbn.block _ r2.lt) | replace r2 := r2.below hbn)
    (try first | replace m3 := m3.of_eq (hbn.block _ m3.lt) | replace m3 := m3.below hbn)
    (try first | replace r4 := r4.of_eq (hbn.block _ r4.lt) | replace r4 := r4.below hbn)
    (try first | replace c6 := c6.of_eq (hbn.block _ c6.lt) | replace c6 := c6.below hbn)
    refine wp_callF rfl (enters_of Try.func91 (by kernel_rfl) rfl) (by simp only [List.map_toArray, List.map_cons, List.map_nil, Act.eval, Array.getD_eq_getD_getElem?, List.getElem?_toArray, List.getElem?_cons_succ, List.getElem?_cons_zero, Option.getD_some]; rfl) ?_
    refine (P_ValidRB c true _ hV0).mono ?_
    rintro e wm ⟨rfl, hbm⟩
    refine ⟨_, rfl, ?_⟩
    have hz := hKx () wm trivial hbm
    dsimp only [detS] at hz
    exact hz
  rintro ⟨⟩
  dsimp only [detS]
  simp only [Act.put, putS]
  refine wpRL_chunk 4 (by kernel_rfl) ?_
  simp only [takS, Nat.reduceAdd]
  repeat (first | go_big_quiet_skip | (go_big_quiet_want; first | (refine quiet_loadAny (t := 64) rfl _ _ _ rfl (fun w hw => run_load_imR (ov_B m3 w hw)) (by first | rfl | omega) ?_; simp only [Act.put, putS]; go_big_quiet_on) | (refine quiet_loadAny (t := 66) rfl _ _ _ rfl (fun w hw => run_load_slp (imgC_u (ov_B m3 w hw))) (by first | rfl | omega) ?_; simp only [Act.put, putS]; go_big_quiet_on) | (refine quiet_loadAny (t := 30) rfl _ _ _ rfl (fun w hw => run_load_B (ov_B r2 w hw) Try.isAgg30 (by kernel_rfl)) (by rfl) ?_; simp only [Act.put, putS]; go_big_quiet_on) | (refine quiet_loadAny (t := 64) rfl _ _ _ rfl (fun w hw => run_load_B (ov_B c6 w hw) Try.isAgg64 (by kernel_rfl)) (by rfl) ?_; simp only [Act.put, putS]; go_big_quiet_on) | (go_big_quiet_op; go_big_quiet_on)))
  refine wpQuiet_nil ?_
  refine wpRL_callB (by rfl) (by first | rfl | simp [Region.wanted, yielded]) ?_ ?_
  · intro wn hbn hE Kx hKx
    have hsz := B.size
    have hzn := hbn.size
    replace B := B.trans (hbn.mono B.size)
    (try first | replace r2 := r2.of_eq (hbn.block _ r2.lt) | replace r2 := r2.below hbn)
    (try first | replace m3 := m3.of_eq (hbn.block _ m3.lt) | replace m3 := m3.below hbn)
    (try first | replace r4 := r4.of_eq (hbn.block _ r4.lt) | replace r4 := r4.below hbn)
    (try first | replace c6 := c6.of_eq (hbn.block _ c6.lt) | replace c6 := c6.below hbn)
    refine wp_lenS rfl Try.underlying66 rfl ?_
    exact hKx () _ trivial (Below.refl _ _)
  rintro ⟨⟩
  dsimp only [detS]
  simp only [Act.put, putS]
  refine wpRL_chunk 1 (by kernel_rfl) ?_
  simp only [takS, Nat.reduceAdd]
  repeat (first | go_big_quiet_skip | (go_big_quiet_want; first | (refine quiet_loadAny (t := 64) rfl _ _ _ rfl (fun w hw => run_load_imR (ov_B m3 w hw)) (by first | rfl | omega) ?_; simp only [Act.put, putS]; go_big_quiet_on) | (refine quiet_loadAny (t := 66) rfl _ _ _ rfl (fun w hw => run_load_slp (imgC_u (ov_B m3 w hw))) (by first | rfl | omega) ?_; simp only [Act.put, putS]; go_big_quiet_on) | (refine quiet_loadAny (t := 30) rfl _ _ _ rfl (fun w hw => run_load_B (ov_B r2 w hw) Try.isAgg30 (by kernel_rfl)) (by rfl) ?_; simp only [Act.put, putS]; go_big_quiet_on) | (refine quiet_loadAny (t := 64) rfl _ _ _ rfl (fun w hw => run_load_B (ov_B c6 w hw) Try.isAgg64 (by kernel_rfl)) (by rfl) ?_; simp only [Act.put, putS]; go_big_quiet_on) | (go_big_quiet_op; go_big_quiet_on)))
  refine wpQuiet_nil ?_
  refine wpRL_callB (by rfl) (by first | rfl | simp [Region.wanted, yielded]) ?_ ?_
  · intro wn hbn hE Kx hKx
    have hsz := B.size
    have hzn := hbn.size
    replace B := B.trans (hbn.mono B.size)
    (try first | replace r2 := r2.of_eq (hbn.block _ r2.lt) | replace r2 := r2.below hbn)
    (try first | replace m3 := m3.of_eq (hbn.block _ m3.lt) | replace m3 := m3.below hbn)
    (try first | replace r4 := r4.of_eq (hbn.block _ r4.lt) | replace r4 := r4.below hbn)
    (try first | replace c6 := c6.of_eq (hbn.block _ c6.lt) | replace c6 := c6.below hbn)
    refine wp_callF rfl (enters_of Try.func78 (by kernel_rfl) rfl) (by simp only [List.map_toArray, List.map_cons, List.map_nil, Act.eval, Array.getD_eq_getD_getElem?, List.getElem?_toArray, List.getElem?_cons_succ, List.getElem?_cons_zero, Option.getD_some]; rfl) ?_
    refine (P_AreaB c A _ hV0 HA.out).mono ?_
    rintro e wm ⟨rfl, hbm⟩
    refine ⟨_, rfl, ?_⟩
    have hz := hKx () wm trivial hbm
    dsimp only [detS] at hz
    exact hz
  rintro ⟨⟩
  dsimp only [detS]
  simp only [Act.put, putS]
  refine wpRL_chunk 2 (by kernel_rfl) ?_
  simp only [takS, Nat.reduceAdd]
  repeat (first | go_big_quiet_skip | (go_big_quiet_want; first | (refine quiet_loadAny (t := 64) rfl _ _ _ rfl (fun w hw => run_load_imR (ov_B m3 w hw)) (by first | rfl | omega) ?_; simp only [Act.put, putS]; go_big_quiet_on) | (refine quiet_loadAny (t := 66) rfl _ _ _ rfl (fun w hw => run_load_slp (imgC_u (ov_B m3 w hw))) (by first | rfl | omega) ?_; simp only [Act.put, putS]; go_big_quiet_on) | (refine quiet_loadAny (t := 30) rfl _ _ _ rfl (fun w hw => run_load_B (ov_B r2 w hw) Try.isAgg30 (by kernel_rfl)) (by rfl) ?_; simp only [Act.put, putS]; go_big_quiet_on) | (refine quiet_loadAny (t := 64) rfl _ _ _ rfl (fun w hw => run_load_B (ov_B c6 w hw) Try.isAgg64 (by kernel_rfl)) (by rfl) ?_; simp only [Act.put, putS]; go_big_quiet_on) | (go_big_quiet_op; go_big_quiet_on)))
  refine wpQuiet_nil ?_
  refine wpRL_nil ?_
  intro wn hbn hE
  have hsz := B.size
  have hzn := hbn.size
  replace B := B.trans (hbn.mono B.size)
  (try first | replace r2 := r2.of_eq (hbn.block _ r2.lt) | replace r2 := r2.below hbn)
  (try first | replace m3 := m3.of_eq (hbn.block _ m3.lt) | replace m3 := m3.below hbn)
  (try first | replace r4 := r4.of_eq (hbn.block _ r4.lt) | replace r4 := r4.below hbn)
  (try first | replace c6 := c6.of_eq (hbn.block _ c6.lt) | replace c6 := c6.below hbn)
  clear hE
  try simp only [List.drop_succ_cons, List.drop_zero]
  refine NoPan.normal ?_
  go_upto_region 3 with fail
  refine wp_region_lit ?_
  try simp only [List.getElem_toArray, List.getElem_cons_zero, List.getElem_cons_succ]
  refine wpList_chunk 1 (by kernel_rfl) ?_
  simp only [takS, Nat.reduceAdd]
  repeat (first | go_big_quiet_skip | (go_big_quiet_want; first | (refine quiet_loadAny (t := 64) rfl _ _ _ rfl (fun w hw => run_load_imR (ov_B m3 w hw)) (by first | rfl | omega) ?_; simp only [Act.put, putS]; go_big_quiet_on) | (refine quiet_loadAny (t := 66) rfl _ _ _ rfl (fun w hw => run_load_slp (imgC_u (ov_B m3 w hw))) (by first | rfl | omega) ?_; simp only [Act.put, putS]; go_big_quiet_on) | (refine quiet_loadAny (t := 30) rfl _ _ _ rfl (fun w hw => run_load_B (ov_B r2 w hw) Try.isAgg30 (by kernel_rfl)) (by rfl) ?_; simp only [Act.put, putS]; go_big_quiet_on) | (refine quiet_loadAny (t := 64) rfl _ _ _ rfl (fun w hw => run_load_B (ov_B c6 w hw) Try.isAgg64 (by kernel_rfl)) (by rfl) ?_; simp only [Act.put, putS]; go_big_quiet_on) | (go_big_quiet_op; go_big_quiet_on)))
  refine wpQuiet_nil ?_
  (refine wpList_storeB (t := 30) rfl _ _ rfl _ rfl _ rfl r4 (by kernel_rfl) rfl (by simp [rcA, imgC, Value.oneCell']) ?_; clear r4; intro wn ht hcn hzn; have hsz := B.size; replace hzn := Nat.le_of_eq hzn.symm; replace B := Chg.below B hcn (by omega) B.size; (try replace r2 := r2.of_eq (hcn.block _ r2.lt (by omega))); (try replace m3 := m3.of_eq (hcn.block _ m3.lt (by omega))); (try replace c6 := c6.of_eq (hcn.block _ c6.lt (by omega))); have r4 := ht; clear ht; simp only [Act.put, putS])
  refine wpList_chunk 1 (by kernel_rfl) ?_
  simp only [takS, Nat.reduceAdd]
  repeat (first | go_big_quiet_skip | (go_big_quiet_want; first | (refine quiet_loadAny (t := 64) rfl _ _ _ rfl (fun w hw => run_load_imR (ov_B m3 w hw)) (by first | rfl | omega) ?_; simp only [Act.put, putS]; go_big_quiet_on) | (refine quiet_loadAny (t := 66) rfl _ _ _ rfl (fun w hw => run_load_slp (imgC_u (ov_B m3 w hw))) (by first | rfl | omega) ?_; simp only [Act.put, putS]; go_big_quiet_on) | (refine quiet_loadAny (t := 30) rfl _ _ _ rfl (fun w hw => run_load_B (ov_B r2 w hw) Try.isAgg30 (by kernel_rfl)) (by rfl) ?_; simp only [Act.put, putS]; go_big_quiet_on) | (refine quiet_loadAny (t := 64) rfl _ _ _ rfl (fun w hw => run_load_B (ov_B c6 w hw) Try.isAgg64 (by kernel_rfl)) (by rfl) ?_; simp only [Act.put, putS]; go_big_quiet_on) | (go_big_quiet_op; go_big_quiet_on)))
  refine wpQuiet_nil ?_
  refine wpList_nil ?_
  go_wp2
  refine bodyPost_ret (results_B2 (t := 30) rfl _ _ (b_r4) rfl _ rfl r4 Try.isAgg30 (by kernel_rfl)) rfl ?_
  exact ⟨rfl, B⟩
set_option maxHeartbeats 4000000 in
theorem P_Paste_big (v : Value) (ls : List TA) (c : Rc) (ad : Option Addr) (n cp : Nat) (w : World) (h : RS v ls w) (hn : n ≤ maxLen) (hV0 : validR c = true) (hA : areaR c = (n : Int)) (e0 : Int) (hF : fitsE c = e0) (h0 : ¬ e0 = 0) : Calls Try.prog 48 #[.agg #[v], .agg (imgC c (.slice ad n cp))] w fun e w' => e = .returned (.tuple #[.agg #[.slice none 0 0], .int .i64 e0]) ∧ Below w.heap.size w w' := by
  have B := Below.refl w.heap.size w
  obtain ⟨a, cpv, rfl, hc⟩ := h.len
  have d1 : ((n : Int) != (n : Int)) = false := by simp
  have d2 : (e0 != 0) = true := by simpa using h0
  have HA := Lib.hid hA
  have HF := Lib.hid hF
  clear h hA hF
  go_enter Try.func48, Try.ntmps48
  go_upto_region 0 with fail
  refine wp_region_lit ?_
  try simp only [List.getElem_toArray, List.getElem_cons_zero, List.getElem_cons_succ]
  (refine wpList_boxB (t := 30) rfl _ rfl _ rfl ?_; intro b_r2 wn hle hge ht hbn hzn; have hsz := B.size; replace B := B.trans (hbn.mono (by omega)); have hln := Nat.lt_of_lt_of_eq (Nat.lt_succ_self _) hzn.symm; clear hzn; have r2 := ht; clear ht; simp only [Act.put, putS])
  (refine wpList_boxB (t := 68) rfl _ rfl _ rfl ?_; intro b_m3 wn hle hge ht hbn hzn; have hsz := B.size; replace B := B.trans (hbn.mono (by omega)); have hln := Nat.lt_of_lt_of_eq (Nat.lt_succ_self _) hzn.symm; clear hzn; (try first | (have hlt := r2.lt; replace r2 := r2.of_eq (hbn.block _ (by omega))) | replace r2 := r2.below (hbn.mono hle)); have m3 := ht; clear ht; simp only [Act.put, putS])
  (refine wpList_allocBk (t := 30) rfl _ (run_alloc_R _ _ rfl) ?_; intro b_r4 wn hle hge ht hbn hzn; have hsz := B.size; replace B := B.trans (hbn.mono (by omega)); have hln := Nat.lt_of_lt_of_eq (Nat.lt_succ_self _) hzn.symm; clear hzn; (try first | (have hlt := r2.lt; replace r2 := r2.of_eq (hbn.block _ (by omega))) | replace r2 := r2.below (hbn.mono hle)); (try first | (have hlt := m3.lt; replace m3 := m3.of_eq (hbn.block _ (by omega))) | replace m3 := m3.below (hbn.mono hle)); have r4 := ht; clear ht; simp only [Act.put, putS])
  refine wpList_chunk 1 (by kernel_rfl) ?_
  simp only [takS, Nat.reduceAdd]
  repeat (first | go_big_quiet_skip | (go_big_quiet_want; first | (refine quiet_loadAny (t := 64) rfl _ _ _ rfl (fun w hw => run_load_imR (ov_B m3 w hw)) (by first | rfl | omega) ?_; simp only [Act.put, putS]; go_big_quiet_on) | (refine quiet_loadAny (t := 66) rfl _ _ _ rfl (fun w hw => run_load_slp (imgC_u (ov_B m3 w hw))) (by first | rfl | omega) ?_; simp only [Act.put, putS]; go_big_quiet_on) | (refine quiet_loadAny (t := 30) rfl _ _ _ rfl (fun w hw => run_load_B (ov_B r2 w hw) Try.isAgg30 (by kernel_rfl)) (by rfl) ?_; simp only [Act.put, putS]; go_big_quiet_on) | (refine quiet_loadAny (t := 64) rfl _ _ _ rfl (fun w hw => run_load_B (ov_B c6 w hw) Try.isAgg64 (by kernel_rfl)) (by rfl) ?_; simp only [Act.put, putS]; go_big_quiet_on) | (go_big_quiet_op; go_big_quiet_on)))
  refine wpQuiet_nil ?_
  refine wpList_nil ?_
  go_upto_region 1 with fail
  refine wp_region_lit ?_
  try simp only [List.getElem_toArray, List.getElem_cons_zero, List.getElem_cons_succ]
  refine wpList_chunk 2 (by kernel_rfl) ?_
  simp only [takS, Nat.reduceAdd]
  repeat (first | go_big_quiet_skip | (go_big_quiet_want; first | (refine quiet_loadAny (t := 64) rfl _ _ _ rfl (fun w hw => run_load_imR (ov_B m3 w hw)) (by first | rfl | omega) ?_; simp only [Act.put, putS]; go_big_quiet_on) | (refine quiet_loadAny (t := 66) rfl _ _ _ rfl (fun w hw => run_load_slp (imgC_u (ov_B m3 w hw))) (by first | rfl | omega) ?_; simp only [Act.put, putS]; go_big_quiet_on) | (refine quiet_loadAny (t := 30) rfl _ _ _ rfl (fun w hw => run_load_B (ov_B r2 w hw) Try.isAgg30 (by kernel_rfl)) (by rfl) ?_; simp only [Act.put, putS]; go_big_quiet_on) | (refine quiet_loadAny (t := 64) rfl _ _ _ rfl (fun w hw => run_load_B (ov_B c6 w hw) Try.isAgg64 (by kernel_rfl)) (by rfl) ?_; simp only [Act.put, putS]; go_big_quiet_on) | (go_big_quiet_op; go_big_quiet_on)))
  refine wpQuiet_nil ?_
  (refine wpList_allocBk (t := 64) rfl _ (run_alloc_Rc _ _ rfl) ?_; intro b_c6 wn hle hge ht hbn hzn; have hsz := B.size; replace B := B.trans (hbn.mono (by omega)); have hln := Nat.lt_of_lt_of_eq (Nat.lt_succ_self _) hzn.symm; clear hzn; (try first | (have hlt := r2.lt; replace r2 := r2.of_eq (hbn.block _ (by omega))) | replace r2 := r2.below (hbn.mono hle)); (try first | (have hlt := m3.lt; replace m3 := m3.of_eq (hbn.block _ (by omega))) | replace m3 := m3.below (hbn.mono hle)); (try first | (have hlt := r4.lt; replace r4 := r4.of_eq (hbn.block _ (by omega))) | replace r4 := r4.below (hbn.mono hle)); (try first | (have hlt := c6.lt; replace c6 := c6.of_eq (hbn.block _ (by omega))) | replace c6 := c6.below (hbn.mono hle)); have c6 := ht; clear ht; simp only [Act.put, putS])
  (refine wpList_storeB (t := 64) rfl _ _ rfl _ rfl _ rfl c6 (by kernel_rfl) rfl (by simp [rcA, imgC, Value.oneCell']) ?_; clear c6; intro wn ht hcn hzn; have hsz := B.size; replace hzn := Nat.le_of_eq hzn.symm; replace B := Chg.below B hcn (by omega) B.size; (try replace r2 := r2.of_eq (hcn.block _ r2.lt (by omega))); (try replace m3 := m3.of_eq (hcn.block _ m3.lt (by omega))); (try replace r4 := r4.of_eq (hcn.block _ r4.lt (by omega))); have c6 := ht; clear ht; simp only [Act.put, putS])
  refine wpList_nil ?_
  replace c6 : AtB 64 _ b_c6 (rcA c) := c6
  go_upto_region 2 with fail
  try simp only [List.getElem_toArray, List.getElem_cons_zero, List.getElem_cons_succ]
  try have lx_r2 := r2.lt
  try have lx_m3 := m3.lt
  try have lx_r4 := r4.lt
  try have lx_c6 := c6.lt
  refine wp_region_RL 11 [(1, detS ?v3_1), (6, detS ?v3_6), (8, detS ?v3_8)] (by kernel_rfl) (by kernel_rfl) (by kernel_rfl) ?_
  rotate_left 3
  simp only [takS, Nat.reduceAdd]
  refine wpRL_chunk 1 (by kernel_rfl) ?_
  simp only [takS, Nat.reduceAdd]
  repeat (first | go_big_quiet_skip | (go_big_quiet_want; first | (refine quiet_loadAny (t := 64) rfl _ _ _ rfl (fun w hw => run_load_imR (ov_B m3 w hw)) (by first | rfl | omega) ?_; simp only [Act.put, putS]; go_big_quiet_on) | (refine quiet_loadAny (t := 66) rfl _ _ _ rfl (fun w hw => run_load_slp (imgC_u (ov_B m3 w hw))) (by first | rfl | omega) ?_; simp only [Act.put, putS]; go_big_quiet_on) | (refine quiet_loadAny (t := 30) rfl _ _ _ rfl (fun w hw => run_load_B (ov_B r2 w hw) Try.isAgg30 (by kernel_rfl)) (by rfl) ?_; simp only [Act.put, putS]; go_big_quiet_on) | (refine quiet_loadAny (t := 64) rfl _ _ _ rfl (fun w hw => run_load_B (ov_B c6 w hw) Try.isAgg64 (by kernel_rfl)) (by rfl) ?_; simp only [Act.put, putS]; go_big_quiet_on) | (go_big_quiet_op; go_big_quiet_on)))
  refine wpQuiet_nil ?_
  refine wpRL_callB (by rfl) (by first | rfl | simp [Region.wanted, yielded]) ?_ ?_
  · intro wn hbn hE Kx hKx
    have hsz := B.size
    have hzn := hbn.size
    replace B := B.trans (hbn.mono B.size)
    (try first | replace r2 := r2.of_eq (hbn.block _ r2.lt) | replace r2 := r2.below hbn)
    (try first | replace m3 := m3.of_eq (hbn.block _ m3.lt) | replace m3 := m3.below hbn)
    (try first | replace r4 := r4.of_eq (hbn.block _ r4.lt) | replace r4 := r4.below hbn)
    (try first | replace c6 := c6.of_eq (hbn.block _ c6.lt) | replace c6 := c6.below hbn)
    refine wp_callF rfl (enters_of Try.func91 (by kernel_rfl) rfl) (by simp only [List.map_toArray, List.map_cons, List.map_nil, Act.eval, Array.getD_eq_getD_getElem?, List.getElem?_toArray, List.getElem?_cons_succ, List.getElem?_cons_zero, Option.getD_some]; rfl) ?_
    refine (P_ValidRB c true _ hV0).mono ?_
    rintro e wm ⟨rfl, hbm⟩
    refine ⟨_, rfl, ?_⟩
    have hz := hKx () wm trivial hbm
    dsimp only [detS] at hz
    exact hz
  rintro ⟨⟩
  dsimp only [detS]
  simp only [Act.put, putS]
  refine wpRL_chunk 4 (by kernel_rfl) ?_
  simp only [takS, Nat.reduceAdd]
  repeat (first | go_big_quiet_skip | (go_big_quiet_want; first | (refine quiet_loadAny (t := 64) rfl _ _ _ rfl (fun w hw => run_load_imR (ov_B m3 w hw)) (by first | rfl | omega) ?_; simp only [Act.put, putS]; go_big_quiet_on) | (refine quiet_loadAny (t := 66) rfl _ _ _ rfl (fun w hw => run_load_slp (imgC_u (ov_B m3 w hw))) (by first | rfl | omega) ?_; simp only [Act.put, putS]; go_big_quiet_on) | (refine quiet_loadAny (t := 30) rfl _ _ _ rfl (fun w hw => run_load_B (ov_B r2 w hw) Try.isAgg30 (by kernel_rfl)) (by rfl) ?_; simp only [Act.put, putS]; go_big_quiet_on) | (refine quiet_loadAny (t := 64) rfl _ _ _ rfl (fun w hw => run_load_B (ov_B c6 w hw) Try.isAgg64 (by kernel_rfl)) (by rfl) ?_; simp only [Act.put, putS]; go_big_quiet_on) | (go_big_quiet_op; go_big_quiet_on)))
  refine wpQuiet_nil ?_
  refine wpRL_callB (by rfl) (by first | rfl | simp [Region.wanted, yielded]) ?_ ?_
  · intro wn hbn hE Kx hKx
    have hsz := B.size
    have hzn := hbn.size
    replace B := B.trans (hbn.mono B.size)
    (try first | replace r2 := r2.of_eq (hbn.block _ r2.lt) | replace r2 := r2.below hbn)
    (try first | replace m3 := m3.of_eq (hbn.block _ m3.lt) | replace m3 := m3.below hbn)
    (try first | replace r4 := r4.of_eq (hbn.block _ r4.lt) | replace r4 := r4.below hbn)
    (try first | replace c6 := c6.of_eq (hbn.block _ c6.lt) | replace c6 := c6.below hbn)
    refine wp_lenS rfl Try.underlying66 rfl ?_
    exact hKx () _ trivial (Below.refl _ _)
  rintro ⟨⟩
  dsimp only [detS]
  simp only [Act.put, putS]
  refine wpRL_chunk 1 (by kernel_rfl) ?_
  simp only [takS, Nat.reduceAdd]
  repeat (first | go_big_quiet_skip | (go_big_quiet_want; first | (refine quiet_loadAny (t := 64) rfl _ _ _ rfl (fun w hw => run_load_imR (ov_B m3 w hw)) (by first | rfl | omega) ?_; simp only [Act.put, putS]; go_big_quiet_on) | (refine quiet_loadAny (t := 66) rfl _ _ _ rfl (fun w hw => run_load_slp (imgC_u (ov_B m3 w hw))) (by first | rfl | omega) ?_; simp only [Act.put, putS]; go_big_quiet_on) | (refine quiet_loadAny (t := 30) rfl _ _ _ rfl (fun w hw => run_load_B (ov_B r2 w hw) Try.isAgg30 (by kernel_rfl)) (by rfl) ?_; simp only [Act.put, putS]; go_big_quiet_on) | (refine quiet_loadAny (t := 64) rfl _ _ _ rfl (fun w hw => run_load_B (ov_B c6 w hw) Try.isAgg64 (by kernel_rfl)) (by rfl) ?_; simp only [Act.put, putS]; go_big_quiet_on) | (go_big_quiet_op; go_big_quiet_on)))
  refine wpQuiet_nil ?_
  refine wpRL_callB (by rfl) (by first | rfl | simp [Region.wanted, yielded]) ?_ ?_
  · intro wn hbn hE Kx hKx
    have hsz := B.size
    have hzn := hbn.size
    replace B := B.trans (hbn.mono B.size)
    (try first | replace r2 := r2.of_eq (hbn.block _ r2.lt) | replace r2 := r2.below hbn)
    (try first | replace m3 := m3.of_eq (hbn.block _ m3.lt) | replace m3 := m3.below hbn)
    (try first | replace r4 := r4.of_eq (hbn.block _ r4.lt) | replace r4 := r4.below hbn)
    (try first | replace c6 := c6.of_eq (hbn.block _ c6.lt) | replace c6 := c6.below hbn)
    refine wp_callF rfl (enters_of Try.func78 (by kernel_rfl) rfl) (by simp only [List.map_toArray, List.map_cons, List.map_nil, Act.eval, Array.getD_eq_getD_getElem?, List.getElem?_toArray, List.getElem?_cons_succ, List.getElem?_cons_zero, Option.getD_some]; rfl) ?_
    refine (P_AreaB c (n : Int) _ hV0 HA.out).mono ?_
    rintro e wm ⟨rfl, hbm⟩
    refine ⟨_, rfl, ?_⟩
    have hz := hKx () wm trivial hbm
    dsimp only [detS] at hz
    exact hz
  rintro ⟨⟩
  dsimp only [detS]
  simp only [Act.put, putS]
  refine wpRL_chunk 2 (by kernel_rfl) ?_
  simp only [takS, Nat.reduceAdd]
  repeat (first | go_big_quiet_skip | (go_big_quiet_want; first | (refine quiet_loadAny (t := 64) rfl _ _ _ rfl (fun w hw => run_load_imR (ov_B m3 w hw)) (by first | rfl | omega) ?_; simp only [Act.put, putS]; go_big_quiet_on) | (refine quiet_loadAny (t := 66) rfl _ _ _ rfl (fun w hw => run_load_slp (imgC_u (ov_B m3 w hw))) (by first | rfl | omega) ?_; simp only [Act.put, putS]; go_big_quiet_on) | (refine quiet_loadAny (t := 30) rfl _ _ _ rfl (fun w hw => run_load_B (ov_B r2 w hw) Try.isAgg30 (by kernel_rfl)) (by rfl) ?_; simp only [Act.put, putS]; go_big_quiet_on) | (refine quiet_loadAny (t := 64) rfl _ _ _ rfl (fun w hw => run_load_B (ov_B c6 w hw) Try.isAgg64 (by kernel_rfl)) (by rfl) ?_; simp only [Act.put, putS]; go_big_quiet_on) | (go_big_quiet_op; go_big_quiet_on)))
  refine wpQuiet_nil ?_
  refine wpRL_nil ?_
  intro wn hbn hE
  have hsz := B.size
  have hzn := hbn.size
  replace B := B.trans (hbn.mono B.size)
  (try first | replace r2 := r2.of_eq (hbn.block _ r2.lt) | replace r2 := r2.below hbn)
  (try first | replace m3 := m3.of_eq (hbn.block _ m3.lt) | replace m3 := m3.below hbn)
  (try first | replace r4 := r4.of_eq (hbn.block _ r4.lt) | replace r4 := r4.below hbn)
  (try first | replace c6 := c6.of_eq (hbn.block _ c6.lt) | replace c6 := c6.below hbn)
  clear hE
  try simp only [List.drop_succ_cons, List.drop_zero]
  refine NoPan.normal ?_
  go_upto_region 4 with fail
  refine wp_region_lit ?_
  try simp only [List.getElem_toArray, List.getElem_cons_zero, List.getElem_cons_succ]
  refine wpList_chunk 1 (by kernel_rfl) ?_
  simp only [takS, Nat.reduceAdd]
  repeat (first | go_big_quiet_skip | (go_big_quiet_want; first | (refine quiet_loadAny (t := 64) rfl _ _ _ rfl (fun w hw => run_load_imR (ov_B m3 w hw)) (by first | rfl | omega) ?_; simp only [Act.put, putS]; go_big_quiet_on) | (refine quiet_loadAny (t := 66) rfl _ _ _ rfl (fun w hw => run_load_slp (imgC_u (ov_B m3 w hw))) (by first | rfl | omega) ?_; simp only [Act.put, putS]; go_big_quiet_on) | (refine quiet_loadAny (t := 30) rfl _ _ _ rfl (fun w hw => run_load_B (ov_B r2 w hw) Try.isAgg30 (by kernel_rfl)) (by rfl) ?_; simp only [Act.put, putS]; go_big_quiet_on) | (refine quiet_loadAny (t := 64) rfl _ _ _ rfl (fun w hw => run_load_B (ov_B c6 w hw) Try.isAgg64 (by kernel_rfl)) (by rfl) ?_; simp only [Act.put, putS]; go_big_quiet_on) | (go_big_quiet_op; go_big_quiet_on)))
  refine wpQuiet_nil ?_
  refine wpList_callF (by first | rfl | simp [Region.wanted, yielded]) rfl (enters_of Try.func77 (by kernel_rfl) rfl) (by simp only [List.map_toArray, List.map_cons, List.map_nil, Act.eval, Array.getD_eq_getD_getElem?, List.getElem?_toArray, List.getElem?_cons_succ, List.getElem?_cons_zero, Option.getD_some]; rfl) ?_
  refine (P_fitsB c e0 _ HF.out).mono ?_
  rintro e wn ⟨rfl, hbn⟩
  have hsz := B.size
  have hzn := hbn.size
  replace B := B.trans (hbn.mono B.size)
  (try first | replace r2 := r2.of_eq (hbn.block _ r2.lt) | replace r2 := r2.below hbn)
  (try first | replace m3 := m3.of_eq (hbn.block _ m3.lt) | replace m3 := m3.below hbn)
  (try first | replace r4 := r4.of_eq (hbn.block _ r4.lt) | replace r4 := r4.below hbn)
  (try first | replace c6 := c6.of_eq (hbn.block _ c6.lt) | replace c6 := c6.below hbn)
  refine ⟨_, rfl, ?_⟩
  simp only [Act.put, putS]
  refine wpList_chunk 1 (by kernel_rfl) ?_
  simp only [takS, Nat.reduceAdd]
  repeat (first | go_big_quiet_skip | (go_big_quiet_want; first | (refine quiet_loadAny (t := 64) rfl _ _ _ rfl (fun w hw => run_load_imR (ov_B m3 w hw)) (by first | rfl | omega) ?_; simp only [Act.put, putS]; go_big_quiet_on) | (refine quiet_loadAny (t := 66) rfl _ _ _ rfl (fun w hw => run_load_slp (imgC_u (ov_B m3 w hw))) (by first | rfl | omega) ?_; simp only [Act.put, putS]; go_big_quiet_on) | (refine quiet_loadAny (t := 30) rfl _ _ _ rfl (fun w hw => run_load_B (ov_B r2 w hw) Try.isAgg30 (by kernel_rfl)) (by rfl) ?_; simp only [Act.put, putS]; go_big_quiet_on) | (refine quiet_loadAny (t := 64) rfl _ _ _ rfl (fun w hw => run_load_B (ov_B c6 w hw) Try.isAgg64 (by kernel_rfl)) (by rfl) ?_; simp only [Act.put, putS]; go_big_quiet_on) | (go_big_quiet_op; go_big_quiet_on)))
  refine wpQuiet_nil ?_
  refine wpList_nil ?_
  go_upto_region 5 with fail
  refine wp_region_lit ?_
  try simp only [List.getElem_toArray, List.getElem_cons_zero, List.getElem_cons_succ]
  refine wpList_chunk 2 (by kernel_rfl) ?_
  simp only [takS, Nat.reduceAdd]
  repeat (first | go_big_quiet_skip | (go_big_quiet_want; first | (refine quiet_loadAny (t := 64) rfl _ _ _ rfl (fun w hw => run_load_imR (ov_B m3 w hw)) (by first | rfl | omega) ?_; simp only [Act.put, putS]; go_big_quiet_on) | (refine quiet_loadAny (t := 66) rfl _ _ _ rfl (fun w hw => run_load_slp (imgC_u (ov_B m3 w hw))) (by first | rfl | omega) ?_; simp only [Act.put, putS]; go_big_quiet_on) | (refine quiet_loadAny (t := 30) rfl _ _ _ rfl (fun w hw => run_load_B (ov_B r2 w hw) Try.isAgg30 (by kernel_rfl)) (by rfl) ?_; simp only [Act.put, putS]; go_big_quiet_on) | (refine quiet_loadAny (t := 64) rfl _ _ _ rfl (fun w hw => run_load_B (ov_B c6 w hw) Try.isAgg64 (by kernel_rfl)) (by rfl) ?_; simp only [Act.put, putS]; go_big_quiet_on) | (go_big_quiet_op; go_big_quiet_on)))
  refine wpQuiet_nil ?_
  refine wpList_nil ?_
  go_upto_region 6 with fail
  refine wp_region_lit ?_
  try simp only [List.getElem_toArray, List.getElem_cons_zero, List.getElem_cons_succ]
  refine wpList_chunk 2 (by kernel_rfl) ?_
  simp only [takS, Nat.reduceAdd]
  repeat (first | go_big_quiet_skip | (go_big_quiet_want; first | (refine quiet_loadAny (t := 64) rfl _ _ _ rfl (fun w hw => run_load_imR (ov_B m3 w hw)) (by first | rfl | omega) ?_; simp only [Act.put, putS]; go_big_quiet_on) | (refine quiet_loadAny (t := 66) rfl _ _ _ rfl (fun w hw => run_load_slp (imgC_u (ov_B m3 w hw))) (by first | rfl | omega) ?_; simp only [Act.put, putS]; go_big_quiet_on) | (refine quiet_loadAny (t := 30) rfl _ _ _ rfl (fun w hw => run_load_B (ov_B r2 w hw) Try.isAgg30 (by kernel_rfl)) (by rfl) ?_; simp only [Act.put, putS]; go_big_quiet_on) | (refine quiet_loadAny (t := 64) rfl _ _ _ rfl (fun w hw => run_load_B (ov_B c6 w hw) Try.isAgg64 (by kernel_rfl)) (by rfl) ?_; simp only [Act.put, putS]; go_big_quiet_on) | (go_big_quiet_op; go_big_quiet_on)))
  refine wpQuiet_nil ?_
  (refine wpList_storeB (t := 30) rfl _ _ rfl _ rfl _ rfl r4 (by kernel_rfl) rfl (by simp [rcA, imgC, Value.oneCell']) ?_; clear r4; intro wn ht hcn hzn; have hsz := B.size; replace hzn := Nat.le_of_eq hzn.symm; replace B := Chg.below B hcn (by omega) B.size; (try replace r2 := r2.of_eq (hcn.block _ r2.lt (by omega))); (try replace m3 := m3.of_eq (hcn.block _ m3.lt (by omega))); (try replace c6 := c6.of_eq (hcn.block _ c6.lt (by omega))); have r4 := ht; clear ht; simp only [Act.put, putS])
  refine wpList_chunk 1 (by kernel_rfl) ?_
  simp only [takS, Nat.reduceAdd]
  repeat (first | go_big_quiet_skip | (go_big_quiet_want; first | (refine quiet_loadAny (t := 64) rfl _ _ _ rfl (fun w hw => run_load_imR (ov_B m3 w hw)) (by first | rfl | omega) ?_; simp only [Act.put, putS]; go_big_quiet_on) | (refine quiet_loadAny (t := 66) rfl _ _ _ rfl (fun w hw => run_load_slp (imgC_u (ov_B m3 w hw))) (by first | rfl | omega) ?_; simp only [Act.put, putS]; go_big_quiet_on) | (refine quiet_loadAny (t := 30) rfl _ _ _ rfl (fun w hw => run_load_B (ov_B r2 w hw) Try.isAgg30 (by kernel_rfl)) (by rfl) ?_; simp only [Act.put, putS]; go_big_quiet_on) | (refine quiet_loadAny (t := 64) rfl _ _ _ rfl (fun w hw => run_load_B (ov_B c6 w hw) Try.isAgg64 (by kernel_rfl)) (by rfl) ?_; simp only [Act.put, putS]; go_big_quiet_on) | (go_big_quiet_op; go_big_quiet_on)))
  refine wpQuiet_nil ?_
  refine wpList_nil ?_
  go_wp2
  refine bodyPost_ret (results_B2 (t := 30) rfl _ _ (b_r4) rfl _ rfl r4 Try.isAgg30 (by kernel_rfl)) rfl ?_
  exact ⟨rfl, B⟩
end Go.Proofs.Ytppccnjckiedlaa
/- A range over a function whose loop variable lies in memory: the round's head makes its block. -/
namespace Go.Proofs.Ytppccnjckiedlaa
open Go Go.RowKit
set_option linter.unusedVariables false
set_option linter.unusedSimpArgs false
section
variable {F : Fence} {n : Nat} {P : Program}
/-- The statement 'for x := range seq { .. }' whose head may lay new blocks: 'As x' says what the head leaves. -/
theorem rangeFunc_made {α : Type} {g : Operand} {ps : Array Tmp} {assign body : Code} {Q : Exit → Act → World → Prop} {a : Act} {w : World}
    (hro : F.round = none) (h1 : 1 ≤ n) {gf : Nat} {lb : Array Value} (hg : a.eval g = .func (.func gf) #[] lb) (hFg : F.fn gf) (eg : ∀ args w, (callFunc gf args).run P w = .ok (.enter gf args) w)
    {encs : α → Array Value} {Kp : World → World → Prop} {S Sp : List α → Prop} {N : Nat} {w0 : World} (hseq : SeqStopsK F (n - 1) P gf lb encs Kp S Sp N w0)
    (hKt : ∀ {A B C : World}, Kp A B → Kp B C → Kp A C) (hKb : ∀ (W : World) (l : Nat) (o o' : Obj), w.heap.size ≤ l → W.heap[l]? = some o → o.isCells = false → o.isWalk = false → Kp W (W.putObj l o'))
    (hKg : ∀ (A B : World), Below A.heap.size A B → Kp A B) (hb0 : Below w0.heap.size w0 w) (hps : ∀ x, (encs x).size = ps.size)
    (I : List α → World → Prop) (hI : OwnFrom w.heap.size I) (h0 : I [] w) (As : α → Act → World → Prop) (hAs : ∀ x, OwnFrom w.heap.size (As x))
    (hassign : ∀ (l : Nat) (pre : List α) (x : α) (W : World) (K : Act → World → Prop), I pre W → (∀ a' W', Below W.heap.size W W' → As x a' W' → K a' W') →
      assign.wpIn (F.inRound l) (n - 1 - 1) P (Exit.then K (fun _ _ _ => False)) { tmps := (ps.zip (encs x)).foldl (fun t (p, v) => t.setIfInBounds p v) a.tmps, defers := [] } W)
    (hbody : ∀ (l : Nat) (pre : List α) (x : α) (W : World) (a' : Act), I pre W → As x a' W → pre.length < N → body.wpIn (F.inRound l) (n - 1 - 1) P (ownPostK Kp I (fun _ _ _ => False) (pre ++ [x]) W) a' W)
    (hdone : ∀ (D : Nat) (xs : List α) (W : World), w.heap.size ≤ D → S xs → I xs W → W.heap[D]? = some (.deferred (some [])) → Q .normal { a with defers := { target := .collected D, args := #[] } :: a.defers } W) :
    (Code.rangeFunc g ps assign body).wpIn F n P Q a w := by
  refine wpIn_rangeFunc fun fn hfn => ?_
  rw [hro]
  obtain ⟨rc, hrc⟩ : ∃ rc : LoopState → Option Code → Loop, rc = fun st pe => { state := st, pending := pe, fn, tmps := a.tmps, params := ps, assign, body, defers := w.heap.size } := ⟨_, rfl⟩
  obtain ⟨W1, hW1⟩ : ∃ W1, (w.alloc (.deferred (some []))).alloc (.loop (rc .ready none)) = W1 := ⟨_, rfl⟩
  have blkL : W1.heap[w.heap.size + 1]? = some (.loop (rc .ready none)) := by
    have := World.alloc_heap_new (w.alloc (.deferred (some []))) (.loop (rc .ready none))
    rw [← hW1]
    rwa [World.size_alloc] at this
  have blkD : W1.heap[w.heap.size]? = some (.deferred (some [])) := by
    rw [← hW1]
    exact (Below.heap_alloc _ _ _ (by simp)).trans (World.alloc_heap_new w _)
  have grown : Below w0.heap.size w0 W1 := by
    rw [← hW1]
    exact hb0.trans ((((Below.refl _ w).alloc (Nat.le_refl _) _).alloc (by simp) _).mono hb0.size)
  have szW1 : w.heap.size ≤ W1.heap.size := by rw [← hW1]; simp; omega
  have start : I [] W1 := by rw [← hW1]; exact hI.alloc _ (hI.alloc _ h0)
  refine ⟨w.heap.size + 1, [{ target := .collected w.heap.size, args := #[] }], W1, { target := .fn (.func gf) lb, args := #[.func (.yield (w.heap.size + 1)) #[] #[]] }, W1, gf,
    #[.func (.yield (w.heap.size + 1)) #[] #[]] ++ lb, W1, ?_, ?_, ?_, ?_, fun _ => h1, ?_⟩
  · rw [← hW1, hrc]; exact run_enterLoop_outer _ _ _ _ _
  · simp only [resolve, hg]
    simp [go_sem]
  · intro f' hf'
    simp [Target.leads] at hf'
    subst hf'
    exact hFg
  · simp [invoke, go_sem, eg]
  have walks : ∀ {A : World} {row : Option Nat}, (∀ r, row = some r → W1.heap.size ≤ r ∧ ∃ o : Obj, A.heap[r]? = some o ∧ o.isWalk = true) → (∀ r, row = some r → w.heap.size ≤ r ∧ ∃ o : Obj, A.heap[r]? = some o ∧ o.isCells = false) := fun hr r e => by
    obtain ⟨hB, o, ho, hw⟩ := hr r e
    exact ⟨by omega, o, ho, Obj.not_cells_of_walk hw⟩
  refine (hseq (w.heap.size + 1)
    (fun pre W => I pre W ∧ W.heap[w.heap.size + 1]? = some (.loop (rc .ready none)) ∧ W.heap[w.heap.size]? = some (.deferred (some [])))
    (fun _ _ => False) W1 grown
    (fun s A B row hs hg' hr => ⟨hI s A B row hs.1 hg' (walks hr), (grownBy_keeps hg' (fun r e => (hr r e).2) hs.2.1 rfl).trans hs.2.1, (grownBy_keeps hg' (fun r e => (hr r e).2) hs.2.2 rfl).trans hs.2.2⟩)
    (fun _ _ _ _ hs _ _ => hs) ?_ ⟨start, blkL, blkD⟩).mono ?_
  · rintro pre x W ⟨hi, hl, hk⟩ hlen
    have hy := run_yield (P := P) (args := encs x) hl (by rw [hrc]; exact hps x)
    rw [hrc] at hy
    refine ⟨fn, _, assign, body, hy, roundIn_of_wpIn hfn (hassign _ pre x W _ hi fun a' V hb ha => ?_)⟩
    have hlV : V.heap[w.heap.size + 1]? = some (.loop (rc .ready none)) := (hb.block _ (Array.getElem?_eq_some_iff.1 hl).1).trans hl
    have hkV : V.heap[w.heap.size]? = some (.deferred (some [])) := (hb.block _ (Array.getElem?_eq_some_iff.1 hk).1).trans hk
    have hiV : I pre V := hI pre W V none hi (grown_of_below hb) (fun r e => by cases e)
    refine ⟨_, run_beginRound hlV (by rw [hrc]), ?_⟩
    obtain ⟨V1, hV1⟩ : ∃ V1, V.putObj (w.heap.size + 1) (.loop { rc .ready none with state := .busy }) = V1 := ⟨_, rfl⟩
    have hl1 : V1.heap[w.heap.size + 1]? = some (.loop { rc .ready none with state := .busy }) := by rw [← hV1]; exact World.putObj_heap_same (Array.getElem?_eq_some_iff.1 hlV).1
    have hk1 : V1.heap[w.heap.size]? = some (.deferred (some [])) := by rw [← hV1]; exact (World.putObj_heap_other (by omega)).trans hkV
    have hKp1 : Kp W V1 := hKt (hKg _ _ hb) (by rw [← hV1]; exact hKb _ _ _ _ (by omega) hlV rfl rfl)
    have hi1 : I pre V1 := by rw [← hV1]; exact hI.putObj _ hiV (by omega) hlV rfl
    have ha1 : As x a' V1 := by rw [← hV1]; exact (hAs x).putObj _ ha (by omega) hlV rfl
    rw [hV1]
    refine wpIn_mono (hbody _ pre x V1 a' hi1 ha1 hlen) ?_
    rintro e a3 W3 hp
    cases e with
    | normal =>
      obtain ⟨ko, kp, hi3⟩ := hp
      have hl3 := ko.same _ _ hl1 rfl
      have hk3 := ko.same _ _ hk1 rfl
      have he := run_endRound (P := P) none hl3
      rw [hrc] at he
      refine ⟨_, _, he, .inl ⟨rfl, ⟨hI.putObj _ hi3 (by omega) hl3 rfl, ?_, (World.putObj_heap_other (by omega)).trans hk3⟩, hKt (hKt hKp1 kp) (hKb _ _ _ _ (by omega) hl3 rfl rfl)⟩⟩
      rw [World.putObj_heap_same (Array.getElem?_eq_some_iff.1 hl3).1, hrc]
      rfl
    | ret => exact hp.2.elim
    | exit id => exact hp.2.elim
    | goto t => exact hp.2.elim
    | panic ch => exact hp.elim
    | outgrown => exact hp.elim
  · rintro e W2 ⟨⟨v, rfl⟩, ⟨xs, hS, hi, hl, hk⟩ | ⟨_, _, hf⟩⟩
    · have he := run_endLoop (P := P) hl (by rw [hrc]; simp)
      rw [hrc] at he
      exact ⟨none, _, he, hdone _ xs _ (Nat.le_refl _) hS (hI.putObj _ hi (by omega) hl rfl) ((World.putObj_heap_other (by omega)).trans hk)⟩
    · exact hf.elim
end
section
variable {P : Program} {ops : Array Oper} {md : Region.Mode} {Q : Exit → Act → World → Prop} {S : World → Prop} {t0 f : Nat} {a : Act} {w : World} {T : Array Bool}
theorem anyX_three (i j k : Nat) {oi oj ok : Oper} (hi : ops[i]? = some oi) (hj : ops[j]? = some oj) (hk : ops[k]? = some ok) (hr : Region.ready md ops T = [i, j, k]) (hgi : oi.guard = none) (hgj : oj.guard = none) (hgk : ok.guard = none)
    (Hi : ∀ K : Act → World → Prop, (∀ a w, (i < t0 → S w) ∧ wpAnyX P md ops (NoPan Q) S t0 f (T.setIfInBounds i true) a w → K a w) → oi.wp P a w K (NoPan Q))
    (Hj : ∀ K : Act → World → Prop, (∀ a w, (j < t0 → S w) ∧ wpAnyX P md ops (NoPan Q) S t0 f (T.setIfInBounds j true) a w → K a w) → oj.wp P a w K (NoPan Q))
    (Hk : ∀ K : Act → World → Prop, (∀ a w, (k < t0 → S w) ∧ wpAnyX P md ops (NoPan Q) S t0 f (T.setIfInBounds k true) a w → K a w) → ok.wp P a w K (NoPan Q)) : wpAnyX P md ops (NoPan Q) S t0 (f + 1) T a w := by
  refine ⟨fun h => (by rw [hr] at h; cases h), fun n hn => ?_⟩
  rw [hr] at hn
  have hn : n = i ∨ n = j ∨ n = k := by simpa using hn
  rcases hn with rfl | rfl | rfl
  · unfold wpOp
    rw [hi]
    simp only []
    rw [if_pos (by simp [Region.wanted, hgi])]
    exact .inl (Hi _ fun _ _ h => h)
  · unfold wpOp
    rw [hj]
    simp only []
    rw [if_pos (by simp [Region.wanted, hgj])]
    exact .inl (Hj _ fun _ _ h => h)
  · unfold wpOp
    rw [hk]
    simp only []
    rw [if_pos (by simp [Region.wanted, hgk])]
    exact .inl (Hk _ fun _ _ h => h)
end
/-- What keeps all but one block of cells, keeps whatever is no cells. -/
theorem KeepsOthers.chgB {b : Nat} {t : TypeId} {cs : Array Value} {W W' : World} (h : Chg b W W') (hb : AtB t W b cs) : KeepsOthers W W' :=
  ⟨h.size, fun k o hk ho => by
    by_cases e : k = b
    · subst e
      rw [show W.heap[k]? = _ from hb] at hk
      cases hk
      cases ho
    · exact (h.block k (Array.getElem?_eq_some_iff.1 hk).1 e).trans hk⟩
theorem KpB.below {b : Nat} {W W' : World} (h : Below W.heap.size W W') : KpB b W W' :=
  ⟨h.size, fun k o _ ho _ => (h.block k (Array.getElem?_eq_some_iff.1 ho).1).trans ho⟩
theorem RCells.own {g o : Nat} {ls : List TA} {A B : World} {row : Option Nat} (h : RCells g o ls A) (hn : 0 < ls.length) (hg : A.grownBy B row) (hr : ∀ r, row = some r → ∃ o : Obj, A.heap[r]? = some o ∧ o.isCells = false) : RCells g o ls B := by
  refine h.of_eq (hg.block g h.lt fun e => ?_)
  obtain ⟨x, hx, hc⟩ := hr g e.symm
  have h0 := h.2 0 hn 0 (by omega)
  have hs : ∃ v, (taC (aT ls 0))[0]? = some v := ⟨_, taC_x _⟩
  obtain ⟨v, hv⟩ := hs
  rw [hv] at h0
  have := cell_not h0 x hx
  rw [hc] at this
  cases this
theorem RS.own {v : Value} {ls : List TA} {A B : World} {row : Option Nat} (h : RS v ls A) (hg : A.grownBy B row) (hr : ∀ r, row = some r → ∃ o : Obj, A.heap[r]? = some o ∧ o.isCells = false) : RS v ls B := by
  rcases h with h | ⟨g, o, c, e, hc, sc⟩
  · exact .inl h
  · exact .inr ⟨g, o, c, e, hc, fun hn => (sc hn).own hn hg hr⟩
end Go.Proofs.Ytppccnjckiedlaa
