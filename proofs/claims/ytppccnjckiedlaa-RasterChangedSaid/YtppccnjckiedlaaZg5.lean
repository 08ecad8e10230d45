/- RasterChanged: for every two generated rasters, Changed and Equal agree with the reference, and replacing the changed tiles makes the rasters equal; the law returns true for every input, and its arguments read as they did. No condition. -/
import Derived.Test.YtppccnjckiedlaaZg4

namespace Go.Proofs.Ytppccnjckiedlaa
open Go.RowKit Go.Shelf Pl
set_option linter.unusedVariables false
set_option linter.unusedSimpArgs false
set_option maxRecDepth 20000
def slnS (n : Nat) : NSpec := ⟨Option Addr × Nat, ⟨(none, 0)⟩, fun x => .slice x.1 n x.2, fun _ _ => True, fun _ _ _ _ _ => trivial⟩
theorem RSE.chgQ {v : Value} {M : List (Int × Int)} {t : TypeId} {b : Nat} {cs : Array Value} {w w' : World} (h : RSE psE v M w) (hb : AtB t w b cs) (hs : ∀ (i : Nat) (n : Int), cs[i]? ≠ some (.int .i64 n)) (hc : Chg b w w') : RSE psE v M w' := by
  rcases h with h | ⟨g, o, c, e, hl, sc⟩ | h
  · exact .inl h
  · exact .inr (.inl ⟨g, o, c, e, hl, fun hn => (sc hn).of_eq (hc.block _ (sc hn).lt (rce_ne (sc hn) hn hb hs))⟩)
  · exact .inr (.inr h)
theorem nsl (a : Option Addr) (n c : Nat) : ∀ (i : Nat) (k : Int), (#[Value.slice a n c])[i]? ≠ some (.int .i64 k) := fun i k => by
  cases i <;> simp
theorem P_EqualO (v u : Value) (ls ks : List TA) (b : Bool) (w : World) (h : RS v ls w) (h' : RS u ks w) (tk : TokL ls) (tk' : TokL ks) (hn : ls.length ≤ maxLen) (hn' : ks.length ≤ maxLen) (e : eqL (fineL ls) (fineL ks) = b) : Calls Try.prog 44 #[.agg #[v], .agg #[u]] w fun e w' => e = .returned (.bool b) ∧ Below w.heap.size w w' := e ▸ P_Equal v u ls ks w h h' tk tk' hn hn'
theorem R_EqualO (v u : Value) (ls ks : List TA) (b : Bool) (w : World) (h : RS v ls w) (h' : RS u ks w) (tk : TokL ls) (tk' : TokL ks) (hn : ls.length ≤ maxLen) (hn' : ks.length ≤ maxLen) (e : eqL (fineL ls) (fineL ks) = b) : Calls Try.prog 30 #[.agg #[v], .agg #[u]] w fun e w' => e = .returned (.bool b) ∧ Below w.heap.size w w' := e ▸ R_Equal v u ls ks w h h' tk tk' hn hn'
theorem P_ChangedO (v u : Value) (ls ks : List TA) (C : List (Int × Int)) (w : World) (h : RS v ls w) (h' : RS u ks w) (tk : TokL ls) (tk' : TokL ks) (hn : ls.length ≤ maxLen) (hn' : ks.length ≤ maxLen) (e : chgP (fineL ls) (fineL ks) = C) : Calls Try.prog 45 #[.agg #[v], .agg #[u]] w fun e w' => ∃ a cp, e = .returned (.slice a C.length cp) ∧ RSE psE (.slice a C.length cp) C w' ∧ Below w.heap.size w w' := e ▸ P_Changed v u ls ks w h h' tk tk' hn hn'
theorem P_ChangedN (v u : Value) (ls ks : List TA) (n : Nat) (w : World) (h : RS v ls w) (h' : RS u ks w) (tk : TokL ls) (tk' : TokL ks) (hn : ls.length ≤ maxLen) (hn' : ks.length ≤ maxLen) (e : (chgP (fineL ls) (fineL ks)).length = n) : Calls Try.prog 45 #[.agg #[v], .agg #[u]] w fun e w' => ∃ a cp, e = .returned (.slice a n cp) ∧ Below w.heap.size w w' :=
  (P_Changed v u ls ks w h h' tk tk' hn hn').mono fun e' w' ⟨a, cp, he, _, hb⟩ => ⟨a, cp, by rw [he, e], hb⟩
theorem R_ChangedO (v u : Value) (ls ks : List TA) (C : List (Int × Int)) (w : World) (h : RS v ls w) (h' : RS u ks w) (tk : TokL ls) (tk' : TokL ks) (hn : ls.length ≤ maxLen) (hn' : ks.length ≤ maxLen) (e : chgR (fineL ls) (fineL ks) = C) : Calls Try.prog 46 #[.agg #[v], .agg #[u]] w fun e w' => ∃ a cp, e = .returned (.slice a C.length cp) ∧ RSE psE (.slice a C.length cp) C w' ∧ Below w.heap.size w w' := e ▸ R_Changed v u ls ks w h h' tk tk' hn hn'
theorem P_PutM (v : Value) (ls ks : List TA) (x y : Int) (t : Nat → Px) (w : World) (h : RS v ls w) (tk : TokL ls) (hn : ls.length ≤ maxLen) (ht : Tok t) (e1 : putE ls x y t = 0) (e2 : putR ls x y t = ks) : Calls Try.prog 28 #[.agg #[v], .agg #[.int .i64 x, .int .i64 y], Tile.v t] w fun e w' => ∃ v', e = .returned (.tuple #[.agg #[v'], .int .i64 0]) ∧ RS v' ks w' ∧ Below w.heap.size w w' := by
  have := P_Put v ls x y t w h tk hn ht
  rw [e1, e2] at this
  exact this
theorem P_TileQ (v : Value) (ls : List TA) (x y : Int) (w : World) (h : RS v ls w) (hn : ls.length ≤ maxLen) : Calls Try.prog 22 #[.agg #[v], .agg #[.int .i64 x, .int .i64 y]] w fun e w' => e = .returned (Tile.v (tileL ls x y)) ∧ Below w.heap.size w w' := P_Tile v ls x y w h hn
theorem mvL_tok {b s : List TA} (hb : TokL b) (hs : TokL s) : ∀ ps, TokL (mvL b s ps) := by
  intro ps
  induction ps generalizing s with
  | nil => exact hs
  | cons p ps ih => exact ih (putR_tok hs (tileL_tok hb p.1 p.2))
theorem takeP_snoc {ps : List (Int × Int)} {k : Nat} {p : Int × Int} (h : ps[k]? = some p) : ps.take (k + 1) = ps.take k ++ [p] := by
  rw [List.take_add_one, h]
  rfl
theorem neqs_pos (x y : Int) (w : World) : (binOp .neq 24 (.agg #[.int .i64 x, .int .i64 y]) (.agg #[.int .i64 x, .int .i64 y])).run Try.prog w = .ok (.bool false) w := by
  have := neq_pos x y x y w
  rw [show eqB x y x y = true from decide_eq_true ⟨rfl, rfl⟩] at this
  exact this
/-- The step of the last loop. -/
theorem mv_step {a b : List TA} (ha : validL a = true) (hb : validL b = true) (hn : a.length + (a.length + b.length) ≤ 1000) {k : Nat} (hk : k < (chgP a b).length) {x y : Int} (h : (chgP a b)[k]? = some (x, y)) :
    putE (mvL b a ((chgP a b).take k)) x y (tileL b x y) = 0 ∧ putR (mvL b a ((chgP a b).take k)) x y (tileL b x y) = mvL b a ((chgP a b).take (k + 1)) := by
  have hl := chgP_len a b
  have hw := chgP_within ha hb
  have hlt : ((chgP a b).take k).length ≤ (chgP a b).length := by rw [List.length_take]; exact Nat.min_le_right _ _
  obtain ⟨h1, h2, _, _⟩ := mvL_spec ha hb ((chgP a b).take k) (by omega) (fun p hp => hw p (List.mem_of_mem_take hp))
  have hp := hw (x, y) (List.mem_of_getElem? h)
  obtain ⟨_, e2⟩ := mv1_eq (b := b) (p := (x, y)) h1 hp (by omega)
  refine ⟨e2, ?_⟩
  rw [takeP_snoc h, mvL_snoc]
  rfl
set_option maxHeartbeats 16000000 in
theorem walk_RasterChanged (q : RawQ) (vL vT : Value) (L T : List Int) (vl : Value) (Ls : List Int) (w : World) (hL : RSE inE vL L w) (hLn : L.length ≤ 17592186044416) (hT : RSE inE vT T w) (hTn : T.length ≤ 17592186044416) (hl : RSE inE vl Ls w) (hlsn : Ls.length ≤ 17592186044416) :
    Calls Try.prog 11 #[.agg #[vL, .int .i64 q.at_, .int .i64 q.px, .int .i64 q.py, vT, .int .i64 q.how], vl] w fun e w' => e = .returned (.bool true) ∧ Below w.heap.size w w' := by
  have B := Below.refl w.heap.size w
  obtain ⟨al, cl, rfl, hcl⟩ := hl.len
  have HL := Lib.hid hL
  have HT := Lib.hid hT
  have HLS := Lib.hid hl
  clear hL hT hl
  have n1 := Lib.hid (len_maxLen (Nat.le_trans (ofL_len q L T) (by omega)))
  have n2 := Lib.hid (len_maxLen (Nat.le_trans (madeL_len L) (by omega)))
  have n3 := Lib.hid (len_maxLen (Nat.le_trans (madeL_len Ls) (by omega)))
  have hA40 := madeL_len40 L
  have hB40 := madeL_len40 Ls
  have VA := Lib.hid (madeL_valid L)
  have VB := Lib.hid (madeL_valid Ls)
  have HC1 := Lib.hid (chgP_R (fineL_valid (ofL q L T)) (fineL_valid (madeL Ls)))
  have hC4 := chgP_len (fineL (ofL q L T)) (fineL (madeL Ls))
  have hf1 := fineL_length (ofL q L T)
  have hf2 := fineL_length (madeL Ls)
  obtain ⟨C, hC⟩ : ∃ C, chgP (fineL (ofL q L T)) (fineL (madeL Ls)) = C := ⟨_, rfl⟩
  rw [hC] at HC1 hC4
  have HC := Lib.hid hC
  clear hC
  have hCn : C.length ≤ 2048 := by omega
  clear hC4 hf1 hf2
  obtain ⟨b1, hb1⟩ : ∃ b, eqL (fineL (ofL q L T)) (fineL (madeL Ls)) = b := ⟨_, rfl⟩
  have HB1 := Lib.hid hb1
  clear hb1
  obtain ⟨M, hM⟩ : ∃ M, chgP (madeL L) (madeL Ls) = M := ⟨_, rfl⟩
  obtain ⟨b2, hb2⟩ : ∃ b, eqL (madeL L) (madeL Ls) = b := ⟨_, rfl⟩
  have hML := chgP_len (madeL L) (madeL Ls)
  rw [hM] at hML
  have hMn : M.length ≤ 80 := by omega
  clear hML
  have d3 : (b2 != ((M.length : Int) == 0)) = false := by
    have := chgP_eqL (madeL L) (madeL Ls)
    rw [hM, hb2] at this
    cases b2 with
    | true => rw [this.2 rfl]; rfl
    | false =>
      have h0 : M ≠ [] := fun e => by have := this.1 e; cases this
      have h1 : 0 < M.length := List.length_pos_iff.2 h0
      have h2 : ((M.length : Int) == 0) = false := beq_eq_false_iff_ne.2 (by omega)
      rw [h2]
      rfl
  have d3e : (b2 == ((M.length : Int) == 0)) = true := by
    have h := d3
    revert h
    cases b2 <;> cases ((M.length : Int) == 0) <;> simp
  have MA := Lib.hid (mvL_all VA.out VB.out (by omega))
  have hMS : ∀ k, k < M.length → ∀ x y, M[k]? = some (x, y) → putE (mvL (madeL Ls) (madeL L) (M.take k)) x y (tileL (madeL Ls) x y) = 0 ∧ putR (mvL (madeL Ls) (madeL L) (M.take k)) x y (tileL (madeL Ls) x y) = mvL (madeL Ls) (madeL L) (M.take (k + 1)) := by
    intro k hk x y hxy
    subst hM
    exact mv_step VA.out VB.out (by omega) hk hxy
  have hMV : ∀ k, validL (mvL (madeL Ls) (madeL L) (M.take k)) = true ∧ (mvL (madeL Ls) (madeL L) (M.take k)).length ≤ 1024 := by
    intro k
    have hk : (M.take k).length ≤ M.length := by rw [List.length_take]; exact Nat.min_le_right _ _
    obtain ⟨h1, h2, _, _⟩ := mvL_spec VA.out VB.out (M.take k) (by omega) (fun p hp => by subst hM; exact chgP_within VA.out VB.out p (List.mem_of_mem_take hp))
    exact ⟨h1, by omega⟩
  have hMC : (chgP (madeL Ls) (madeL L)).length = M.length := by rw [chgP_comm VA.out VB.out, hM]
  rw [hM] at MA
  have HMS := Lib.hid hMS
  have HMV := Lib.hid hMV
  have HM := Lib.hid hM
  have HB2 := Lib.hid hb2
  have HMC := Lib.hid hMC
  clear hMS hMV hM hb2 hMC
  have d1 : ((C.length : Int) != (C.length : Int)) = false := by simp
  have d2 : (b1 != b1) = false := by simp
  have F2 := Lib.hid (fineL_of VA.out)
  have F3 := Lib.hid (fineL_of VB.out)
  go_enter Try.func11, Try.ntmps11
  go_upto_region 0 with fail
  refine wp_region_lit ?_
  try simp only [List.getElem_toArray, List.getElem_cons_zero, List.getElem_cons_succ]
  (refine wpList_boxB (t := 26) rfl _ rfl _ rfl ?_; intro b_q2 wn hle hge ht hbn hzn; have hsz := B.size; replace B := B.trans (hbn.mono (by omega)); have hln := Nat.lt_of_lt_of_eq (Nat.lt_succ_self _) hzn.symm; clear hzn; have q2 := ht; clear ht; simp only [Act.put, putS])
  refine wpList_chunk 1 (by kernel_rfl) ?_
  simp only [takS, Nat.reduceAdd]
  repeat (first | go_big_quiet_skip | (go_big_quiet_want; first | (go_big_quiet_op; go_big_quiet_on)))
  refine wpQuiet_nil ?_
  refine wpList_nil ?_
  go_upto_region 1 with fail
  refine wp_region_lit ?_
  try simp only [List.getElem_toArray, List.getElem_cons_zero, List.getElem_cons_succ]
  refine wpList_callF (by first | rfl | simp [Region.wanted, yielded]) rfl (enters_of Try.func14 (by kernel_rfl) rfl) (by simp only [List.map_toArray, List.map_cons, List.map_nil, Act.eval, Array.getD_eq_getD_getElem?, List.getElem?_toArray, List.getElem?_cons_succ, List.getElem?_cons_zero, Option.getD_some]; rfl) ?_
  refine (sanity08 _).mono ?_
  rintro e wn ⟨rfl, hbn⟩
  have hsz := B.size
  have hzn := hbn.size
  replace B := B.trans (hbn.mono B.size)
  (try first | replace q2 := q2.of_eq (hbn.block _ q2.lt) | replace q2 := q2.below hbn)
  refine ⟨_, rfl, ?_⟩
  simp only [Act.put, putS]
  refine wpList_chunk 1 (by kernel_rfl) ?_
  simp only [takS, Nat.reduceAdd]
  repeat (first | go_big_quiet_skip | (go_big_quiet_want; first | (go_big_quiet_op; go_big_quiet_on)))
  refine wpQuiet_nil ?_
  refine wpList_nil ?_
  go_upto_region 2 with fail
  refine wp_region_lit ?_
  try simp only [List.getElem_toArray, List.getElem_cons_zero, List.getElem_cons_succ]
  refine wpList_chunk 1 (by kernel_rfl) ?_
  simp only [takS, Nat.reduceAdd]
  repeat (first | go_big_quiet_skip | (go_big_quiet_want; first | (refine quiet_loadAny (t := 26) rfl _ _ _ rfl (fun w hw => run_load_B (ov_B q2 w hw) Try.isAgg26 (by kernel_rfl)) (by rfl) ?_; simp only [Act.put, putS]; go_big_quiet_on) | (go_big_quiet_op; go_big_quiet_on)))
  refine wpQuiet_nil ?_
  refine wpList_callF (by first | rfl | simp [Region.wanted, yielded]) rfl (enters_of Try.func15 (by kernel_rfl) rfl) (by simp only [List.map_toArray, List.map_cons, List.map_nil, Act.eval, Array.getD_eq_getD_getElem?, List.getElem?_toArray, List.getElem?_cons_succ, List.getElem?_cons_zero, Option.getD_some]; rfl) ?_
  refine (L_ofO q _ _ L T _ (HL.out.below B) hLn (HT.out.below B) hTn).mono ?_
  rintro e wn ⟨a1, c1, rfl, rs1, hbn⟩
  have hsz := B.size
  have hzn := hbn.size
  replace B := B.trans (hbn.mono B.size)
  (try first | replace q2 := q2.of_eq (hbn.block _ q2.lt) | replace q2 := q2.below hbn)
  (try first | replace rs1 := rs1.of_eq (hbn.block _ rs1.lt) | replace rs1 := rs1.below hbn)
  refine ⟨_, rfl, ?_⟩
  simp only [Act.put, putS]
  (refine wpList_allocBk (t := 30) rfl _ (run_alloc_R _ _ rfl) ?_; intro b_r6 wn hle hge ht hbn hzn; have hsz := B.size; replace B := B.trans (hbn.mono (by omega)); have hln := Nat.lt_of_lt_of_eq (Nat.lt_succ_self _) hzn.symm; clear hzn; (try first | (have hlt := q2.lt; replace q2 := q2.of_eq (hbn.block _ (by omega))) | replace q2 := q2.below (hbn.mono hle)); (try first | (have hlt := rs1.lt; replace rs1 := rs1.of_eq (hbn.block _ (by omega))) | replace rs1 := rs1.below (hbn.mono hle)); have r6 := ht; clear ht; simp only [Act.put, putS])
  (refine wpList_storeB (t := 30) rfl _ _ rfl _ rfl _ rfl r6 (by kernel_rfl) rfl (by simp [Value.oneCell']) ?_; have r6o := r6; have r6o := r6; clear r6; intro wn ht hcn hzn; (try replace o1 := o1.chgQ r6o (nsl _ _ _) hcn); (try replace o2 := o2.chgQ r6o (nsl _ _ _) hcn); (try replace o3 := o3.chgQ r6o (nsl _ _ _) hcn); (try replace rs1 := rs1.chg r6o (by simp [rcA]) hcn); (try replace rs2 := rs2.chg r6o (by simp [rcA]) hcn); (try replace rs3 := rs3.chg r6o (by simp [rcA]) hcn); (try replace rs4 := rs4.chg r6o (by simp [rcA]) hcn); (try replace rs5 := rs5.chg r6o (by simp [rcA]) hcn); have hsz := B.size; replace hzn := Nat.le_of_eq hzn.symm; replace B := Chg.below B hcn (by omega) B.size; (try replace q2 := q2.of_eq (hcn.block _ q2.lt (by omega))); (try replace rs1 := rs1.of_eq (hcn.block _ rs1.lt (by omega))); have r6 := ht; clear ht; simp only [Act.put, putS])
  refine wpList_nil ?_
  go_upto_region 3 with fail
  refine wp_region_lit ?_
  try simp only [List.getElem_toArray, List.getElem_cons_zero, List.getElem_cons_succ]
  refine wpList_chunk 2 (by kernel_rfl) ?_
  simp only [takS, Nat.reduceAdd]
  repeat (first | go_big_quiet_skip | (go_big_quiet_want; first | (refine quiet_loadAny (t := 22) rfl _ _ _ rfl (fun w hw => run_load_sli ((ov_B q2 w hw).cell 0 rfl)) (by rfl) ?_; simp only [Act.put, putS]; go_big_quiet_on) | (go_big_quiet_op; go_big_quiet_on)))
  refine wpQuiet_nil ?_
  refine wpList_callF (by first | rfl | simp [Region.wanted, yielded]) rfl (enters_of Try.func18 (by kernel_rfl) rfl) (by simp only [List.map_toArray, List.map_cons, List.map_nil, Act.eval, Array.getD_eq_getD_getElem?, List.getElem?_toArray, List.getElem?_cons_succ, List.getElem?_cons_zero, Option.getD_some]; rfl) ?_
  refine (R_Made8O _ L _ (HL.out.below B) hLn).mono ?_
  rintro e wn ⟨a2, c2, rfl, rs2, hbn⟩
  have hsz := B.size
  have hzn := hbn.size
  replace B := B.trans (hbn.mono B.size)
  (try first | replace q2 := q2.of_eq (hbn.block _ q2.lt) | replace q2 := q2.below hbn)
  (try first | replace r6 := r6.of_eq (hbn.block _ r6.lt) | replace r6 := r6.below hbn)
  (try first | replace rs1 := rs1.of_eq (hbn.block _ rs1.lt) | replace rs1 := rs1.below hbn)
  (try first | replace rs2 := rs2.of_eq (hbn.block _ rs2.lt) | replace rs2 := rs2.below hbn)
  refine ⟨_, rfl, ?_⟩
  simp only [Act.put, putS]
  (refine wpList_allocBk (t := 30) rfl _ (run_alloc_R _ _ rfl) ?_; intro b_r7 wn hle hge ht hbn hzn; have hsz := B.size; replace B := B.trans (hbn.mono (by omega)); have hln := Nat.lt_of_lt_of_eq (Nat.lt_succ_self _) hzn.symm; clear hzn; (try first | (have hlt := q2.lt; replace q2 := q2.of_eq (hbn.block _ (by omega))) | replace q2 := q2.below (hbn.mono hle)); (try first | (have hlt := r6.lt; replace r6 := r6.of_eq (hbn.block _ (by omega))) | replace r6 := r6.below (hbn.mono hle)); (try first | (have hlt := rs1.lt; replace rs1 := rs1.of_eq (hbn.block _ (by omega))) | replace rs1 := rs1.below (hbn.mono hle)); (try first | (have hlt := rs2.lt; replace rs2 := rs2.of_eq (hbn.block _ (by omega))) | replace rs2 := rs2.below (hbn.mono hle)); have r7 := ht; clear ht; simp only [Act.put, putS])
  (refine wpList_storeB (t := 30) rfl _ _ rfl _ rfl _ rfl r7 (by kernel_rfl) rfl (by simp [Value.oneCell']) ?_; have r7o := r7; have r7o := r7; clear r7; intro wn ht hcn hzn; (try replace o1 := o1.chgQ r7o (nsl _ _ _) hcn); (try replace o2 := o2.chgQ r7o (nsl _ _ _) hcn); (try replace o3 := o3.chgQ r7o (nsl _ _ _) hcn); (try replace rs1 := rs1.chg r7o (by simp [rcA]) hcn); (try replace rs2 := rs2.chg r7o (by simp [rcA]) hcn); (try replace rs3 := rs3.chg r7o (by simp [rcA]) hcn); (try replace rs4 := rs4.chg r7o (by simp [rcA]) hcn); (try replace rs5 := rs5.chg r7o (by simp [rcA]) hcn); have hsz := B.size; replace hzn := Nat.le_of_eq hzn.symm; replace B := Chg.below B hcn (by omega) B.size; (try replace q2 := q2.of_eq (hcn.block _ q2.lt (by omega))); (try replace r6 := r6.of_eq (hcn.block _ r6.lt (by omega))); (try replace rs1 := rs1.of_eq (hcn.block _ rs1.lt (by omega))); (try replace rs2 := rs2.of_eq (hcn.block _ rs2.lt (by omega))); have r7 := ht; clear ht; simp only [Act.put, putS])
  refine wpList_nil ?_
  go_upto_region 4 with fail
  refine wp_region_lit ?_
  try simp only [List.getElem_toArray, List.getElem_cons_zero, List.getElem_cons_succ]
  refine wpList_chunk 1 (by kernel_rfl) ?_
  simp only [takS, Nat.reduceAdd]
  repeat (first | go_big_quiet_skip | (go_big_quiet_want; first | (go_big_quiet_op; go_big_quiet_on)))
  refine wpQuiet_nil ?_
  refine wpList_callF (by first | rfl | simp [Region.wanted, yielded]) rfl (enters_of Try.func18 (by kernel_rfl) rfl) (by simp only [List.map_toArray, List.map_cons, List.map_nil, Act.eval, Array.getD_eq_getD_getElem?, List.getElem?_toArray, List.getElem?_cons_succ, List.getElem?_cons_zero, Option.getD_some]; rfl) ?_
  refine (R_Made8O _ Ls _ (HLS.out.below B) hlsn).mono ?_
  rintro e wn ⟨a3, c3, rfl, rs3, hbn⟩
  have hsz := B.size
  have hzn := hbn.size
  replace B := B.trans (hbn.mono B.size)
  (try first | replace q2 := q2.of_eq (hbn.block _ q2.lt) | replace q2 := q2.below hbn)
  (try first | replace r6 := r6.of_eq (hbn.block _ r6.lt) | replace r6 := r6.below hbn)
  (try first | replace r7 := r7.of_eq (hbn.block _ r7.lt) | replace r7 := r7.below hbn)
  (try first | replace rs1 := rs1.of_eq (hbn.block _ rs1.lt) | replace rs1 := rs1.below hbn)
  (try first | replace rs2 := rs2.of_eq (hbn.block _ rs2.lt) | replace rs2 := rs2.below hbn)
  (try first | replace rs3 := rs3.of_eq (hbn.block _ rs3.lt) | replace rs3 := rs3.below hbn)
  refine ⟨_, rfl, ?_⟩
  simp only [Act.put, putS]
  (refine wpList_allocBk (t := 30) rfl _ (run_alloc_R _ _ rfl) ?_; intro b_r8 wn hle hge ht hbn hzn; have hsz := B.size; replace B := B.trans (hbn.mono (by omega)); have hln := Nat.lt_of_lt_of_eq (Nat.lt_succ_self _) hzn.symm; clear hzn; (try first | (have hlt := q2.lt; replace q2 := q2.of_eq (hbn.block _ (by omega))) | replace q2 := q2.below (hbn.mono hle)); (try first | (have hlt := r6.lt; replace r6 := r6.of_eq (hbn.block _ (by omega))) | replace r6 := r6.below (hbn.mono hle)); (try first | (have hlt := r7.lt; replace r7 := r7.of_eq (hbn.block _ (by omega))) | replace r7 := r7.below (hbn.mono hle)); (try first | (have hlt := rs1.lt; replace rs1 := rs1.of_eq (hbn.block _ (by omega))) | replace rs1 := rs1.below (hbn.mono hle)); (try first | (have hlt := rs2.lt; replace rs2 := rs2.of_eq (hbn.block _ (by omega))) | replace rs2 := rs2.below (hbn.mono hle)); (try first | (have hlt := rs3.lt; replace rs3 := rs3.of_eq (hbn.block _ (by omega))) | replace rs3 := rs3.below (hbn.mono hle)); have r8 := ht; clear ht; simp only [Act.put, putS])
  (refine wpList_storeB (t := 30) rfl _ _ rfl _ rfl _ rfl r8 (by kernel_rfl) rfl (by simp [Value.oneCell']) ?_; have r8o := r8; have r8o := r8; clear r8; intro wn ht hcn hzn; (try replace o1 := o1.chgQ r8o (nsl _ _ _) hcn); (try replace o2 := o2.chgQ r8o (nsl _ _ _) hcn); (try replace o3 := o3.chgQ r8o (nsl _ _ _) hcn); (try replace rs1 := rs1.chg r8o (by simp [rcA]) hcn); (try replace rs2 := rs2.chg r8o (by simp [rcA]) hcn); (try replace rs3 := rs3.chg r8o (by simp [rcA]) hcn); (try replace rs4 := rs4.chg r8o (by simp [rcA]) hcn); (try replace rs5 := rs5.chg r8o (by simp [rcA]) hcn); have hsz := B.size; replace hzn := Nat.le_of_eq hzn.symm; replace B := Chg.below B hcn (by omega) B.size; (try replace q2 := q2.of_eq (hcn.block _ q2.lt (by omega))); (try replace r6 := r6.of_eq (hcn.block _ r6.lt (by omega))); (try replace r7 := r7.of_eq (hcn.block _ r7.lt (by omega))); (try replace rs1 := rs1.of_eq (hcn.block _ rs1.lt (by omega))); (try replace rs2 := rs2.of_eq (hcn.block _ rs2.lt (by omega))); (try replace rs3 := rs3.of_eq (hcn.block _ rs3.lt (by omega))); have r8 := ht; clear ht; simp only [Act.put, putS])
  refine wpList_nil ?_
  clear HL HT hLn hTn HLS hlsn
  go_upto_region 5 with fail
  refine wp_region_lit ?_
  try simp only [List.getElem_toArray, List.getElem_cons_zero, List.getElem_cons_succ]
  refine wpList_chunk 2 (by kernel_rfl) ?_
  simp only [takS, Nat.reduceAdd]
  repeat (first | go_big_quiet_skip | (go_big_quiet_want; first | (refine quiet_loadAny (t := 30) rfl _ _ _ rfl (fun w hw => run_load_B (ov_B r6 w hw) Try.isAgg30 (by kernel_rfl)) (by rfl) ?_; simp only [Act.put, putS]; go_big_quiet_on) | (refine quiet_loadAny (t := 30) rfl _ _ _ rfl (fun w hw => run_load_B (ov_B r7 w hw) Try.isAgg30 (by kernel_rfl)) (by rfl) ?_; simp only [Act.put, putS]; go_big_quiet_on) | (refine quiet_loadAny (t := 30) rfl _ _ _ rfl (fun w hw => run_load_B (ov_B r8 w hw) Try.isAgg30 (by kernel_rfl)) (by rfl) ?_; simp only [Act.put, putS]; go_big_quiet_on) | (refine quiet_loadAny (t := 30) rfl _ _ _ rfl (fun w hw => run_load_B (ov_B r12 w hw) Try.isAgg30 (by kernel_rfl)) (by rfl) ?_; simp only [Act.put, putS]; go_big_quiet_on) | (refine quiet_loadAny (t := 30) rfl _ _ _ rfl (fun w hw => run_load_B (ov_B r15 w hw) Try.isAgg30 (by kernel_rfl)) (by rfl) ?_; simp only [Act.put, putS]; go_big_quiet_on) | (go_big_quiet_op; go_big_quiet_on)))
  refine wpQuiet_nil ?_
  refine wpList_callF (by first | rfl | simp [Region.wanted, yielded]) rfl (enters_of Try.func45 (by kernel_rfl) rfl) (by simp only [List.map_toArray, List.map_cons, List.map_nil, Act.eval, Array.getD_eq_getD_getElem?, List.getElem?_toArray, List.getElem?_cons_succ, List.getElem?_cons_zero, Option.getD_some]; rfl) ?_
  refine (P_ChangedO _ _ (ofL q L T) (madeL Ls) C _ rs1 rs3 (ofL_tok q L T) (madeL_tok Ls) n1.out n3.out HC.out).mono ?_
  rintro e wn ⟨d1', e1', rfl, o1, hbn⟩
  have hsz := B.size
  have hzn := hbn.size
  replace B := B.trans (hbn.mono B.size)
  (try first | replace q2 := q2.of_eq (hbn.block _ q2.lt) | replace q2 := q2.below hbn)
  (try first | replace r6 := r6.of_eq (hbn.block _ r6.lt) | replace r6 := r6.below hbn)
  (try first | replace r7 := r7.of_eq (hbn.block _ r7.lt) | replace r7 := r7.below hbn)
  (try first | replace r8 := r8.of_eq (hbn.block _ r8.lt) | replace r8 := r8.below hbn)
  (try first | replace r12 := r12.of_eq (hbn.block _ r12.lt) | replace r12 := r12.below hbn)
  (try first | replace r15 := r15.of_eq (hbn.block _ r15.lt) | replace r15 := r15.below hbn)
  (try first | replace rs1 := rs1.of_eq (hbn.block _ rs1.lt) | replace rs1 := rs1.below hbn)
  (try first | replace rs2 := rs2.of_eq (hbn.block _ rs2.lt) | replace rs2 := rs2.below hbn)
  (try first | replace rs3 := rs3.of_eq (hbn.block _ rs3.lt) | replace rs3 := rs3.below hbn)
  (try first | replace o1 := o1.of_eq (hbn.block _ o1.lt) | replace o1 := o1.below hbn)
  refine ⟨_, rfl, ?_⟩
  simp only [Act.put, putS]
  refine wpList_chunk 1 (by kernel_rfl) ?_
  simp only [takS, Nat.reduceAdd]
  repeat (first | go_big_quiet_skip | (go_big_quiet_want; first | (go_big_quiet_op; go_big_quiet_on)))
  refine wpQuiet_nil ?_
  refine wpList_nil ?_
  go_upto_region 6 with fail
  refine wp_region_lit ?_
  try simp only [List.getElem_toArray, List.getElem_cons_zero, List.getElem_cons_succ]
  refine wpList_chunk 2 (by kernel_rfl) ?_
  simp only [takS, Nat.reduceAdd]
  repeat (first | go_big_quiet_skip | (go_big_quiet_want; first | (refine quiet_loadAny (t := 30) rfl _ _ _ rfl (fun w hw => run_load_B (ov_B r6 w hw) Try.isAgg30 (by kernel_rfl)) (by rfl) ?_; simp only [Act.put, putS]; go_big_quiet_on) | (refine quiet_loadAny (t := 30) rfl _ _ _ rfl (fun w hw => run_load_B (ov_B r7 w hw) Try.isAgg30 (by kernel_rfl)) (by rfl) ?_; simp only [Act.put, putS]; go_big_quiet_on) | (refine quiet_loadAny (t := 30) rfl _ _ _ rfl (fun w hw => run_load_B (ov_B r8 w hw) Try.isAgg30 (by kernel_rfl)) (by rfl) ?_; simp only [Act.put, putS]; go_big_quiet_on) | (refine quiet_loadAny (t := 30) rfl _ _ _ rfl (fun w hw => run_load_B (ov_B r12 w hw) Try.isAgg30 (by kernel_rfl)) (by rfl) ?_; simp only [Act.put, putS]; go_big_quiet_on) | (refine quiet_loadAny (t := 30) rfl _ _ _ rfl (fun w hw => run_load_B (ov_B r15 w hw) Try.isAgg30 (by kernel_rfl)) (by rfl) ?_; simp only [Act.put, putS]; go_big_quiet_on) | (go_big_quiet_op; go_big_quiet_on)))
  refine wpQuiet_nil ?_
  refine wpList_callF (by first | rfl | simp [Region.wanted, yielded]) rfl (enters_of Try.func46 (by kernel_rfl) rfl) (by simp only [List.map_toArray, List.map_cons, List.map_nil, Act.eval, Array.getD_eq_getD_getElem?, List.getElem?_toArray, List.getElem?_cons_succ, List.getElem?_cons_zero, Option.getD_some]; rfl) ?_
  refine (R_ChangedO _ _ (ofL q L T) (madeL Ls) C _ rs1 rs3 (ofL_tok q L T) (madeL_tok Ls) n1.out n3.out HC1.out).mono ?_
  rintro e wn ⟨d2', e2', rfl, o2, hbn⟩
  have hsz := B.size
  have hzn := hbn.size
  replace B := B.trans (hbn.mono B.size)
  (try first | replace q2 := q2.of_eq (hbn.block _ q2.lt) | replace q2 := q2.below hbn)
  (try first | replace r6 := r6.of_eq (hbn.block _ r6.lt) | replace r6 := r6.below hbn)
  (try first | replace r7 := r7.of_eq (hbn.block _ r7.lt) | replace r7 := r7.below hbn)
  (try first | replace r8 := r8.of_eq (hbn.block _ r8.lt) | replace r8 := r8.below hbn)
  (try first | replace r12 := r12.of_eq (hbn.block _ r12.lt) | replace r12 := r12.below hbn)
  (try first | replace r15 := r15.of_eq (hbn.block _ r15.lt) | replace r15 := r15.below hbn)
  (try first | replace rs1 := rs1.of_eq (hbn.block _ rs1.lt) | replace rs1 := rs1.below hbn)
  (try first | replace rs2 := rs2.of_eq (hbn.block _ rs2.lt) | replace rs2 := rs2.below hbn)
  (try first | replace rs3 := rs3.of_eq (hbn.block _ rs3.lt) | replace rs3 := rs3.below hbn)
  (try first | replace o1 := o1.of_eq (hbn.block _ o1.lt) | replace o1 := o1.below hbn)
  (try first | replace o2 := o2.of_eq (hbn.block _ o2.lt) | replace o2 := o2.below hbn)
  refine ⟨_, rfl, ?_⟩
  simp only [Act.put, putS]
  refine wpList_chunk 1 (by kernel_rfl) ?_
  simp only [takS, Nat.reduceAdd]
  repeat (first | go_big_quiet_skip | (go_big_quiet_want; first | (go_big_quiet_op; go_big_quiet_on)))
  refine wpQuiet_nil ?_
  refine wpList_nil ?_
  go_upto_region 7 with fail
  try simp only [List.getElem_toArray, List.getElem_cons_zero, List.getElem_cons_succ]
  try have lx_q2 := q2.lt
  try have lx_r6 := r6.lt
  try have lx_r7 := r7.lt
  try have lx_r8 := r8.lt
  try have lx_r12 := r12.lt
  try have lx_r15 := r15.lt
  try have lx_rs1 := rs1.lt
  try have lx_rs2 := rs2.lt
  try have lx_rs3 := rs3.lt
  try have lx_o1 := o1.lt
  try have lx_o2 := o2.lt
  refine wp_region_RL 25 [(1, detS ?v1_1), (3, detS ?v1_3), (8, detS ?v1_8), (11, detS ?v1_11), (17, detS ?v1_17), (20, slnS M.length), (21, detS ?v1_21)] (by kernel_rfl) (by kernel_rfl) (by kernel_rfl) ?_
  rotate_left 6
  simp only [takS, Nat.reduceAdd]
  refine wpRL_chunk 1 (by kernel_rfl) ?_
  simp only [takS, Nat.reduceAdd]
  repeat (first | go_big_quiet_skip | (go_big_quiet_want; first | (go_big_quiet_op; go_big_quiet_on)))
  refine wpQuiet_nil ?_
  refine wpRL_callB (by rfl) (by first | rfl | simp [Region.wanted, yielded]) ?_ ?_
  · intro wn hbn hE Kx hKx
    have hsz := B.size
    have hzn := hbn.size
    replace B := B.trans (hbn.mono B.size)
    (try first | replace q2 := q2.of_eq (hbn.block _ q2.lt) | replace q2 := q2.below hbn)
    (try first | replace r6 := r6.of_eq (hbn.block _ r6.lt) | replace r6 := r6.below hbn)
    (try first | replace r7 := r7.of_eq (hbn.block _ r7.lt) | replace r7 := r7.below hbn)
    (try first | replace r8 := r8.of_eq (hbn.block _ r8.lt) | replace r8 := r8.below hbn)
    (try first | replace r12 := r12.of_eq (hbn.block _ r12.lt) | replace r12 := r12.below hbn)
    (try first | replace r15 := r15.of_eq (hbn.block _ r15.lt) | replace r15 := r15.below hbn)
    (try first | replace rs1 := rs1.of_eq (hbn.block _ rs1.lt) | replace rs1 := rs1.below hbn)
    (try first | replace rs2 := rs2.of_eq (hbn.block _ rs2.lt) | replace rs2 := rs2.below hbn)
    (try first | replace rs3 := rs3.of_eq (hbn.block _ rs3.lt) | replace rs3 := rs3.below hbn)
    (try first | replace o1 := o1.of_eq (hbn.block _ o1.lt) | replace o1 := o1.below hbn)
    (try first | replace o2 := o2.of_eq (hbn.block _ o2.lt) | replace o2 := o2.below hbn)
    refine wp_lenS rfl Try.underlying88 rfl ?_
    exact hKx () _ trivial (Below.refl _ _)
  rintro ⟨⟩
  dsimp only [detS]
  simp only [Act.put, putS]
  refine wpRL_chunk 1 (by kernel_rfl) ?_
  simp only [takS, Nat.reduceAdd]
  repeat (first | go_big_quiet_skip | (go_big_quiet_want; first | (go_big_quiet_op; go_big_quiet_on)))
  refine wpQuiet_nil ?_
  refine wpRL_callB (by rfl) (by first | rfl | simp [Region.wanted, yielded]) ?_ ?_
  · intro wn hbn hE Kx hKx
    have hsz := B.size
    have hzn := hbn.size
    replace B := B.trans (hbn.mono B.size)
    (try first | replace q2 := q2.of_eq (hbn.block _ q2.lt) | replace q2 := q2.below hbn)
    (try first | replace r6 := r6.of_eq (hbn.block _ r6.lt) | replace r6 := r6.below hbn)
    (try first | replace r7 := r7.of_eq (hbn.block _ r7.lt) | replace r7 := r7.below hbn)
    (try first | replace r8 := r8.of_eq (hbn.block _ r8.lt) | replace r8 := r8.below hbn)
    (try first | replace r12 := r12.of_eq (hbn.block _ r12.lt) | replace r12 := r12.below hbn)
    (try first | replace r15 := r15.of_eq (hbn.block _ r15.lt) | replace r15 := r15.below hbn)
    (try first | replace rs1 := rs1.of_eq (hbn.block _ rs1.lt) | replace rs1 := rs1.below hbn)
    (try first | replace rs2 := rs2.of_eq (hbn.block _ rs2.lt) | replace rs2 := rs2.below hbn)
    (try first | replace rs3 := rs3.of_eq (hbn.block _ rs3.lt) | replace rs3 := rs3.below hbn)
    (try first | replace o1 := o1.of_eq (hbn.block _ o1.lt) | replace o1 := o1.below hbn)
    (try first | replace o2 := o2.of_eq (hbn.block _ o2.lt) | replace o2 := o2.below hbn)
    refine wp_lenS rfl Try.underlying88 rfl ?_
    exact hKx () _ trivial (Below.refl _ _)
  rintro ⟨⟩
  dsimp only [detS]
  simp only [Act.put, putS]
  refine wpRL_chunk 4 (by kernel_rfl) ?_
  simp only [takS, Nat.reduceAdd]
  repeat (first | go_big_quiet_skip | (go_big_quiet_want; first | (refine quiet_loadAny (t := 30) rfl _ _ _ rfl (fun w hw => run_load_B (ov_B r6 w hw) Try.isAgg30 (by kernel_rfl)) (by rfl) ?_; simp only [Act.put, putS]; go_big_quiet_on) | (refine quiet_loadAny (t := 30) rfl _ _ _ rfl (fun w hw => run_load_B (ov_B r7 w hw) Try.isAgg30 (by kernel_rfl)) (by rfl) ?_; simp only [Act.put, putS]; go_big_quiet_on) | (refine quiet_loadAny (t := 30) rfl _ _ _ rfl (fun w hw => run_load_B (ov_B r8 w hw) Try.isAgg30 (by kernel_rfl)) (by rfl) ?_; simp only [Act.put, putS]; go_big_quiet_on) | (refine quiet_loadAny (t := 30) rfl _ _ _ rfl (fun w hw => run_load_B (ov_B r12 w hw) Try.isAgg30 (by kernel_rfl)) (by rfl) ?_; simp only [Act.put, putS]; go_big_quiet_on) | (refine quiet_loadAny (t := 30) rfl _ _ _ rfl (fun w hw => run_load_B (ov_B r15 w hw) Try.isAgg30 (by kernel_rfl)) (by rfl) ?_; simp only [Act.put, putS]; go_big_quiet_on) | (go_big_quiet_op; go_big_quiet_on)))
  refine wpQuiet_nil ?_
  refine wpRL_callB (by rfl) ?hw1_8 ?_ ?_
  case hw1_8 => kernel_rfl
  · intro wn hbn hE Kx hKx
    have hsz := B.size
    have hzn := hbn.size
    replace B := B.trans (hbn.mono B.size)
    (try first | replace q2 := q2.of_eq (hbn.block _ q2.lt) | replace q2 := q2.below hbn)
    (try first | replace r6 := r6.of_eq (hbn.block _ r6.lt) | replace r6 := r6.below hbn)
    (try first | replace r7 := r7.of_eq (hbn.block _ r7.lt) | replace r7 := r7.below hbn)
    (try first | replace r8 := r8.of_eq (hbn.block _ r8.lt) | replace r8 := r8.below hbn)
    (try first | replace r12 := r12.of_eq (hbn.block _ r12.lt) | replace r12 := r12.below hbn)
    (try first | replace r15 := r15.of_eq (hbn.block _ r15.lt) | replace r15 := r15.below hbn)
    (try first | replace rs1 := rs1.of_eq (hbn.block _ rs1.lt) | replace rs1 := rs1.below hbn)
    (try first | replace rs2 := rs2.of_eq (hbn.block _ rs2.lt) | replace rs2 := rs2.below hbn)
    (try first | replace rs3 := rs3.of_eq (hbn.block _ rs3.lt) | replace rs3 := rs3.below hbn)
    (try first | replace o1 := o1.of_eq (hbn.block _ o1.lt) | replace o1 := o1.below hbn)
    (try first | replace o2 := o2.of_eq (hbn.block _ o2.lt) | replace o2 := o2.below hbn)
    refine wp_callF rfl (enters_of Try.func44 (by kernel_rfl) rfl) (by simp only [List.map_toArray, List.map_cons, List.map_nil, Act.eval, Array.getD_eq_getD_getElem?, List.getElem?_toArray, List.getElem?_cons_succ, List.getElem?_cons_zero, Option.getD_some]; rfl) ?_
    refine (P_EqualO _ _ (ofL q L T) (madeL Ls) b1 _ rs1 rs3 (ofL_tok q L T) (madeL_tok Ls) n1.out n3.out HB1.out).mono ?_
    rintro e wm ⟨rfl, hbm⟩
    refine ⟨_, rfl, ?_⟩
    have hz := hKx () wm trivial hbm
    dsimp only [detS] at hz
    exact hz
  rintro ⟨⟩
  dsimp only [detS]
  simp only [Act.put, putS]
  refine wpRL_chunk 2 (by kernel_rfl) ?_
  simp only [takS, Nat.reduceAdd]
  repeat (first | go_big_quiet_skip | (go_big_quiet_want; first | (refine quiet_loadAny (t := 30) rfl _ _ _ rfl (fun w hw => run_load_B (ov_B r6 w hw) Try.isAgg30 (by kernel_rfl)) (by rfl) ?_; simp only [Act.put, putS]; go_big_quiet_on) | (refine quiet_loadAny (t := 30) rfl _ _ _ rfl (fun w hw => run_load_B (ov_B r7 w hw) Try.isAgg30 (by kernel_rfl)) (by rfl) ?_; simp only [Act.put, putS]; go_big_quiet_on) | (refine quiet_loadAny (t := 30) rfl _ _ _ rfl (fun w hw => run_load_B (ov_B r8 w hw) Try.isAgg30 (by kernel_rfl)) (by rfl) ?_; simp only [Act.put, putS]; go_big_quiet_on) | (refine quiet_loadAny (t := 30) rfl _ _ _ rfl (fun w hw => run_load_B (ov_B r12 w hw) Try.isAgg30 (by kernel_rfl)) (by rfl) ?_; simp only [Act.put, putS]; go_big_quiet_on) | (refine quiet_loadAny (t := 30) rfl _ _ _ rfl (fun w hw => run_load_B (ov_B r15 w hw) Try.isAgg30 (by kernel_rfl)) (by rfl) ?_; simp only [Act.put, putS]; go_big_quiet_on) | (go_big_quiet_op; go_big_quiet_on)))
  refine wpQuiet_nil ?_
  refine wpRL_callB (by rfl) ?hw1_11 ?_ ?_
  case hw1_11 => kernel_rfl
  · intro wn hbn hE Kx hKx
    have hsz := B.size
    have hzn := hbn.size
    replace B := B.trans (hbn.mono B.size)
    (try first | replace q2 := q2.of_eq (hbn.block _ q2.lt) | replace q2 := q2.below hbn)
    (try first | replace r6 := r6.of_eq (hbn.block _ r6.lt) | replace r6 := r6.below hbn)
    (try first | replace r7 := r7.of_eq (hbn.block _ r7.lt) | replace r7 := r7.below hbn)
    (try first | replace r8 := r8.of_eq (hbn.block _ r8.lt) | replace r8 := r8.below hbn)
    (try first | replace r12 := r12.of_eq (hbn.block _ r12.lt) | replace r12 := r12.below hbn)
    (try first | replace r15 := r15.of_eq (hbn.block _ r15.lt) | replace r15 := r15.below hbn)
    (try first | replace rs1 := rs1.of_eq (hbn.block _ rs1.lt) | replace rs1 := rs1.below hbn)
    (try first | replace rs2 := rs2.of_eq (hbn.block _ rs2.lt) | replace rs2 := rs2.below hbn)
    (try first | replace rs3 := rs3.of_eq (hbn.block _ rs3.lt) | replace rs3 := rs3.below hbn)
    (try first | replace o1 := o1.of_eq (hbn.block _ o1.lt) | replace o1 := o1.below hbn)
    (try first | replace o2 := o2.of_eq (hbn.block _ o2.lt) | replace o2 := o2.below hbn)
    refine wp_callF rfl (enters_of Try.func30 (by kernel_rfl) rfl) (by simp only [List.map_toArray, List.map_cons, List.map_nil, Act.eval, Array.getD_eq_getD_getElem?, List.getElem?_toArray, List.getElem?_cons_succ, List.getElem?_cons_zero, Option.getD_some]; rfl) ?_
    refine (R_EqualO _ _ (ofL q L T) (madeL Ls) b1 _ rs1 rs3 (ofL_tok q L T) (madeL_tok Ls) n1.out n3.out HB1.out).mono ?_
    rintro e wm ⟨rfl, hbm⟩
    refine ⟨_, rfl, ?_⟩
    have hz := hKx () wm trivial hbm
    dsimp only [detS] at hz
    exact hz
  rintro ⟨⟩
  dsimp only [detS]
  simp only [Act.put, putS]
  refine wpRL_chunk 5 (by kernel_rfl) ?_
  simp only [takS, Nat.reduceAdd]
  repeat (first | go_big_quiet_skip | (go_big_quiet_want; first | (refine quiet_loadAny (t := 30) rfl _ _ _ rfl (fun w hw => run_load_B (ov_B r6 w hw) Try.isAgg30 (by kernel_rfl)) (by rfl) ?_; simp only [Act.put, putS]; go_big_quiet_on) | (refine quiet_loadAny (t := 30) rfl _ _ _ rfl (fun w hw => run_load_B (ov_B r7 w hw) Try.isAgg30 (by kernel_rfl)) (by rfl) ?_; simp only [Act.put, putS]; go_big_quiet_on) | (refine quiet_loadAny (t := 30) rfl _ _ _ rfl (fun w hw => run_load_B (ov_B r8 w hw) Try.isAgg30 (by kernel_rfl)) (by rfl) ?_; simp only [Act.put, putS]; go_big_quiet_on) | (refine quiet_loadAny (t := 30) rfl _ _ _ rfl (fun w hw => run_load_B (ov_B r12 w hw) Try.isAgg30 (by kernel_rfl)) (by rfl) ?_; simp only [Act.put, putS]; go_big_quiet_on) | (refine quiet_loadAny (t := 30) rfl _ _ _ rfl (fun w hw => run_load_B (ov_B r15 w hw) Try.isAgg30 (by kernel_rfl)) (by rfl) ?_; simp only [Act.put, putS]; go_big_quiet_on) | (go_big_quiet_op; go_big_quiet_on)))
  refine wpQuiet_nil ?_
  refine wpRL_callB (by rfl) ?hw1_17 ?_ ?_
  case hw1_17 => kernel_rfl
  · intro wn hbn hE Kx hKx
    have hsz := B.size
    have hzn := hbn.size
    replace B := B.trans (hbn.mono B.size)
    (try first | replace q2 := q2.of_eq (hbn.block _ q2.lt) | replace q2 := q2.below hbn)
    (try first | replace r6 := r6.of_eq (hbn.block _ r6.lt) | replace r6 := r6.below hbn)
    (try first | replace r7 := r7.of_eq (hbn.block _ r7.lt) | replace r7 := r7.below hbn)
    (try first | replace r8 := r8.of_eq (hbn.block _ r8.lt) | replace r8 := r8.below hbn)
    (try first | replace r12 := r12.of_eq (hbn.block _ r12.lt) | replace r12 := r12.below hbn)
    (try first | replace r15 := r15.of_eq (hbn.block _ r15.lt) | replace r15 := r15.below hbn)
    (try first | replace rs1 := rs1.of_eq (hbn.block _ rs1.lt) | replace rs1 := rs1.below hbn)
    (try first | replace rs2 := rs2.of_eq (hbn.block _ rs2.lt) | replace rs2 := rs2.below hbn)
    (try first | replace rs3 := rs3.of_eq (hbn.block _ rs3.lt) | replace rs3 := rs3.below hbn)
    (try first | replace o1 := o1.of_eq (hbn.block _ o1.lt) | replace o1 := o1.below hbn)
    (try first | replace o2 := o2.of_eq (hbn.block _ o2.lt) | replace o2 := o2.below hbn)
    refine wp_callF rfl (enters_of Try.func44 (by kernel_rfl) rfl) (by simp only [List.map_toArray, List.map_cons, List.map_nil, Act.eval, Array.getD_eq_getD_getElem?, List.getElem?_toArray, List.getElem?_cons_succ, List.getElem?_cons_zero, Option.getD_some]; rfl) ?_
    refine (P_EqualO _ _ (madeL L) (madeL Ls) b2 _ rs2 rs3 (madeL_tok L) (madeL_tok Ls) n2.out n3.out (by rw [F2.out, F3.out]; exact HB2.out)).mono ?_
    rintro e wm ⟨rfl, hbm⟩
    refine ⟨_, rfl, ?_⟩
    have hz := hKx () wm trivial hbm
    dsimp only [detS] at hz
    exact hz
  rintro ⟨⟩
  dsimp only [detS]
  simp only [Act.put, putS]
  refine wpRL_chunk 2 (by kernel_rfl) ?_
  simp only [takS, Nat.reduceAdd]
  repeat (first | go_big_quiet_skip | (go_big_quiet_want; first | (refine quiet_loadAny (t := 30) rfl _ _ _ rfl (fun w hw => run_load_B (ov_B r6 w hw) Try.isAgg30 (by kernel_rfl)) (by rfl) ?_; simp only [Act.put, putS]; go_big_quiet_on) | (refine quiet_loadAny (t := 30) rfl _ _ _ rfl (fun w hw => run_load_B (ov_B r7 w hw) Try.isAgg30 (by kernel_rfl)) (by rfl) ?_; simp only [Act.put, putS]; go_big_quiet_on) | (refine quiet_loadAny (t := 30) rfl _ _ _ rfl (fun w hw => run_load_B (ov_B r8 w hw) Try.isAgg30 (by kernel_rfl)) (by rfl) ?_; simp only [Act.put, putS]; go_big_quiet_on) | (refine quiet_loadAny (t := 30) rfl _ _ _ rfl (fun w hw => run_load_B (ov_B r12 w hw) Try.isAgg30 (by kernel_rfl)) (by rfl) ?_; simp only [Act.put, putS]; go_big_quiet_on) | (refine quiet_loadAny (t := 30) rfl _ _ _ rfl (fun w hw => run_load_B (ov_B r15 w hw) Try.isAgg30 (by kernel_rfl)) (by rfl) ?_; simp only [Act.put, putS]; go_big_quiet_on) | (go_big_quiet_op; go_big_quiet_on)))
  refine wpQuiet_nil ?_
  refine wpRL_callB (by rfl) ?hw1_20 ?_ ?_
  case hw1_20 => kernel_rfl
  · intro wn hbn hE Kx hKx
    have hsz := B.size
    have hzn := hbn.size
    replace B := B.trans (hbn.mono B.size)
    (try first | replace q2 := q2.of_eq (hbn.block _ q2.lt) | replace q2 := q2.below hbn)
    (try first | replace r6 := r6.of_eq (hbn.block _ r6.lt) | replace r6 := r6.below hbn)
    (try first | replace r7 := r7.of_eq (hbn.block _ r7.lt) | replace r7 := r7.below hbn)
    (try first | replace r8 := r8.of_eq (hbn.block _ r8.lt) | replace r8 := r8.below hbn)
    (try first | replace r12 := r12.of_eq (hbn.block _ r12.lt) | replace r12 := r12.below hbn)
    (try first | replace r15 := r15.of_eq (hbn.block _ r15.lt) | replace r15 := r15.below hbn)
    (try first | replace rs1 := rs1.of_eq (hbn.block _ rs1.lt) | replace rs1 := rs1.below hbn)
    (try first | replace rs2 := rs2.of_eq (hbn.block _ rs2.lt) | replace rs2 := rs2.below hbn)
    (try first | replace rs3 := rs3.of_eq (hbn.block _ rs3.lt) | replace rs3 := rs3.below hbn)
    (try first | replace o1 := o1.of_eq (hbn.block _ o1.lt) | replace o1 := o1.below hbn)
    (try first | replace o2 := o2.of_eq (hbn.block _ o2.lt) | replace o2 := o2.below hbn)
    refine wp_callF rfl (enters_of Try.func45 (by kernel_rfl) rfl) (by simp only [List.map_toArray, List.map_cons, List.map_nil, Act.eval, Array.getD_eq_getD_getElem?, List.getElem?_toArray, List.getElem?_cons_succ, List.getElem?_cons_zero, Option.getD_some]; rfl) ?_
    refine (P_ChangedN _ _ (madeL L) (madeL Ls) M.length _ rs2 rs3 (madeL_tok L) (madeL_tok Ls) n2.out n3.out (by rw [F2.out, F3.out, HM.out])).mono ?_
    rintro e wm ⟨a', c', rfl, hbm⟩
    have hr := trivial
    exact ⟨_, rfl, hKx (a', c') wm hr hbm⟩
  rintro ⟨a51, c51⟩
  dsimp only [detS, slnS]
  simp only [Act.put, putS]
  refine wpRL_callB (by rfl) ?hw1_21 ?_ ?_
  case hw1_21 => kernel_rfl
  · intro wn hbn hE Kx hKx
    have hsz := B.size
    have hzn := hbn.size
    replace B := B.trans (hbn.mono B.size)
    (try first | replace q2 := q2.of_eq (hbn.block _ q2.lt) | replace q2 := q2.below hbn)
    (try first | replace r6 := r6.of_eq (hbn.block _ r6.lt) | replace r6 := r6.below hbn)
    (try first | replace r7 := r7.of_eq (hbn.block _ r7.lt) | replace r7 := r7.below hbn)
    (try first | replace r8 := r8.of_eq (hbn.block _ r8.lt) | replace r8 := r8.below hbn)
    (try first | replace r12 := r12.of_eq (hbn.block _ r12.lt) | replace r12 := r12.below hbn)
    (try first | replace r15 := r15.of_eq (hbn.block _ r15.lt) | replace r15 := r15.below hbn)
    (try first | replace rs1 := rs1.of_eq (hbn.block _ rs1.lt) | replace rs1 := rs1.below hbn)
    (try first | replace rs2 := rs2.of_eq (hbn.block _ rs2.lt) | replace rs2 := rs2.below hbn)
    (try first | replace rs3 := rs3.of_eq (hbn.block _ rs3.lt) | replace rs3 := rs3.below hbn)
    (try first | replace o1 := o1.of_eq (hbn.block _ o1.lt) | replace o1 := o1.below hbn)
    (try first | replace o2 := o2.of_eq (hbn.block _ o2.lt) | replace o2 := o2.below hbn)
    refine wp_lenS rfl Try.underlying88 rfl ?_
    exact hKx () _ trivial (Below.refl _ _)
  rintro ⟨⟩
  dsimp only [detS]
  simp only [Act.put, putS]
  refine wpRL_chunk 3 (by kernel_rfl) ?_
  simp only [takS, Nat.reduceAdd]
  repeat (first | go_big_quiet_skip | (go_big_quiet_want; first | (go_big_quiet_op; go_big_quiet_on)))
  refine wpQuiet_nil ?_
  refine wpRL_nil ?_
  intro wn hbn hE
  have hsz := B.size
  have hzn := hbn.size
  replace B := B.trans (hbn.mono B.size)
  (try first | replace q2 := q2.of_eq (hbn.block _ q2.lt) | replace q2 := q2.below hbn)
  (try first | replace r6 := r6.of_eq (hbn.block _ r6.lt) | replace r6 := r6.below hbn)
  (try first | replace r7 := r7.of_eq (hbn.block _ r7.lt) | replace r7 := r7.below hbn)
  (try first | replace r8 := r8.of_eq (hbn.block _ r8.lt) | replace r8 := r8.below hbn)
  (try first | replace r12 := r12.of_eq (hbn.block _ r12.lt) | replace r12 := r12.below hbn)
  (try first | replace r15 := r15.of_eq (hbn.block _ r15.lt) | replace r15 := r15.below hbn)
  (try first | replace rs1 := rs1.of_eq (hbn.block _ rs1.lt) | replace rs1 := rs1.below hbn)
  (try first | replace rs2 := rs2.of_eq (hbn.block _ rs2.lt) | replace rs2 := rs2.below hbn)
  (try first | replace rs3 := rs3.of_eq (hbn.block _ rs3.lt) | replace rs3 := rs3.below hbn)
  (try first | replace o1 := o1.of_eq (hbn.block _ o1.lt) | replace o1 := o1.below hbn)
  (try first | replace o2 := o2.of_eq (hbn.block _ o2.lt) | replace o2 := o2.below hbn)
  clear hE
  try simp only [List.drop_succ_cons, List.drop_zero]
  refine NoPan.normal ?_
  clear r6 rs1
  go_upto_region 9 with fail
  refine wp_region_lit ?_
  try simp only [List.getElem_toArray, List.getElem_cons_zero, List.getElem_cons_succ]
  refine wpList_chunk 1 (by kernel_rfl) ?_
  simp only [takS, Nat.reduceAdd]
  repeat (first | go_big_quiet_skip | (go_big_quiet_want; first | (go_big_quiet_op; go_big_quiet_on)))
  refine wpQuiet_nil ?_
  refine wpList_nil ?_
  go_wp2
  go_loopw [11] (fun iv wr => ∃ k : Nat, k ≤ C.length ∧ iv = .int .i64 (k : Int) ∧ Below w.heap.size w wr ∧ AtB 30 wr b_r7 #[.slice a2 (madeL L).length c2] ∧ AtB 30 wr b_r8 #[.slice a3 (madeL Ls).length c3] ∧ RS (.slice a2 (madeL L).length c2) (madeL L) wr ∧ RS (.slice a3 (madeL Ls).length c3) (madeL Ls) wr ∧ RSE psE (.slice d1' C.length e1') C wr ∧ RSE psE (.slice d2' C.length e2') C wr) (fun iv _ => (C.length - intOf iv).toNat)
  case atStart => exact ⟨0, by omega, rfl, B, r7, r8, rs2, rs3, o1, o2⟩
  case round =>
    clear B r7 r8 rs2 rs3 o1 o2
    obtain ⟨k, hk, rfl, B, r7, r8, rs2, rs3, o1, o2⟩ := hrel
    by_cases hkl : k < C.length
    · have q1 : decide ((k : Int) < (C.length : Int)) = true := decide_eq_true (by omega)
      have q2 : decide (k < C.length) = true := decide_eq_true hkl
      go_upto_region 10 with fail
      refine wp_region_lit ?_
      try simp only [List.getElem_toArray, List.getElem_cons_zero, List.getElem_cons_succ]
      refine wpList_chunk 2 (by kernel_rfl) ?_
      simp only [takS, Nat.reduceAdd]
      repeat (first | go_big_quiet_skip | (go_big_quiet_want; first | (go_big_quiet_op; go_big_quiet_on)))
      refine wpQuiet_nil ?_
      refine wpList_lenS (by first | rfl | simp [Region.wanted, yielded]) rfl Try.underlying88 rfl ?_
      simp only [Act.put, putS]
      refine wpList_chunk 1 (by kernel_rfl) ?_
      simp only [takS, Nat.reduceAdd]
      repeat (first | go_big_quiet_skip | (go_big_quiet_want; first | (go_big_quiet_op; go_big_quiet_on)))
      refine wpQuiet_nil ?_
      refine wpList_nil ?_
      obtain ⟨g1, p1, rfl, rc1⟩ := o1.at (by omega)
      obtain ⟨g2, p2, rfl, rc2⟩ := o2.at (by omega)
      obtain ⟨⟨x, y⟩, hq⟩ : ∃ p, C[k]? = some p := ⟨_, List.getElem?_eq_getElem hkl⟩
      have hne := neqs_pos x y
      go_upto_region 12 with fail
      refine wp_region_ov (by kernel_rfl) (by kernel_rfl) ?_
      repeat (first | go_big_quiet_skip | (go_big_quiet_want; first | (refine quiet_loadAny (t := 24) rfl _ _ _ rfl (fun w hw => rce_ps (ov_rce rc1 w hw) hq) (by first | rfl | omega) ?_; simp only [Act.put, putS]; go_big_quiet_on) | (refine quiet_loadAny (t := 24) rfl _ _ _ rfl (fun w hw => rce_ps (ov_rce rc2 w hw) hq) (by first | rfl | omega) ?_; simp only [Act.put, putS]; go_big_quiet_on) | (go_big_quiet_op; first | go_big_quiet_on | go_big_quiet_call ((fail)))))
      refine wpQuiet_nil ?_
      intro wn hbn
      have hsz := B.size
      have hzn := hbn.size
      replace B := B.trans (hbn.mono B.size)
      try first | replace q2 := q2.of_eq (hbn.block _ q2.lt) | replace q2 := q2.below hbn
      try first | replace r6 := r6.of_eq (hbn.block _ r6.lt) | replace r6 := r6.below hbn
      try first | replace r7 := r7.of_eq (hbn.block _ r7.lt) | replace r7 := r7.below hbn
      try first | replace r8 := r8.of_eq (hbn.block _ r8.lt) | replace r8 := r8.below hbn
      try first | replace r12 := r12.of_eq (hbn.block _ r12.lt) | replace r12 := r12.below hbn
      try first | replace r15 := r15.of_eq (hbn.block _ r15.lt) | replace r15 := r15.below hbn
      try first | replace rs1 := rs1.of_eq (hbn.block _ rs1.lt) | replace rs1 := rs1.below hbn
      try first | replace rs2 := rs2.of_eq (hbn.block _ rs2.lt) | replace rs2 := rs2.below hbn
      try first | replace rs3 := rs3.of_eq (hbn.block _ rs3.lt) | replace rs3 := rs3.below hbn
      try first | replace o1 := o1.of_eq (hbn.block _ o1.lt) | replace o1 := o1.below hbn
      try first | replace o2 := o2.of_eq (hbn.block _ o2.lt) | replace o2 := o2.below hbn
      go_wp2
      go_roundw
      case rel => exact ⟨k + 1, by omega, by go_num, B, r7, r8, rs2, rs3, o1, o2⟩
      case measure => simp [intOf]; omega
    · obtain rfl : k = C.length := by omega
      have q1 : decide (((C.length : Nat) : Int) < (C.length : Int)) = false := decide_eq_false (by omega)
      have q2 : decide (C.length < C.length) = false := decide_eq_false (by omega)
      go_upto_region 10 with fail
      refine wp_region_lit ?_
      try simp only [List.getElem_toArray, List.getElem_cons_zero, List.getElem_cons_succ]
      refine wpList_chunk 2 (by kernel_rfl) ?_
      simp only [takS, Nat.reduceAdd]
      repeat (first | go_big_quiet_skip | (go_big_quiet_want; first | (go_big_quiet_op; go_big_quiet_on)))
      refine wpQuiet_nil ?_
      refine wpList_lenS (by first | rfl | simp [Region.wanted, yielded]) rfl Try.underlying88 rfl ?_
      simp only [Act.put, putS]
      refine wpList_chunk 1 (by kernel_rfl) ?_
      simp only [takS, Nat.reduceAdd]
      repeat (first | go_big_quiet_skip | (go_big_quiet_want; first | (go_big_quiet_op; go_big_quiet_on)))
      refine wpQuiet_nil ?_
      refine wpList_nil ?_
      clear o1 o2 q1 q2
      go_upto_region 14 with fail
      refine wp_region_lit ?_
      try simp only [List.getElem_toArray, List.getElem_cons_zero, List.getElem_cons_succ]
      refine wpList_chunk 1 (by kernel_rfl) ?_
      simp only [takS, Nat.reduceAdd]
      repeat (first | go_big_quiet_skip | (go_big_quiet_want; first | (refine quiet_loadAny (t := 30) rfl _ _ _ rfl (fun w hw => run_load_B (ov_B r6 w hw) Try.isAgg30 (by kernel_rfl)) (by rfl) ?_; simp only [Act.put, putS]; go_big_quiet_on) | (refine quiet_loadAny (t := 30) rfl _ _ _ rfl (fun w hw => run_load_B (ov_B r7 w hw) Try.isAgg30 (by kernel_rfl)) (by rfl) ?_; simp only [Act.put, putS]; go_big_quiet_on) | (refine quiet_loadAny (t := 30) rfl _ _ _ rfl (fun w hw => run_load_B (ov_B r8 w hw) Try.isAgg30 (by kernel_rfl)) (by rfl) ?_; simp only [Act.put, putS]; go_big_quiet_on) | (refine quiet_loadAny (t := 30) rfl _ _ _ rfl (fun w hw => run_load_B (ov_B r12 w hw) Try.isAgg30 (by kernel_rfl)) (by rfl) ?_; simp only [Act.put, putS]; go_big_quiet_on) | (refine quiet_loadAny (t := 30) rfl _ _ _ rfl (fun w hw => run_load_B (ov_B r15 w hw) Try.isAgg30 (by kernel_rfl)) (by rfl) ?_; simp only [Act.put, putS]; go_big_quiet_on) | (go_big_quiet_op; go_big_quiet_on)))
      refine wpQuiet_nil ?_
      (refine wpList_allocBk (t := 30) rfl _ (run_alloc_R _ _ rfl) ?_; intro b_r12 wn hle hge ht hbn hzn; have hsz := B.size; replace B := B.trans (hbn.mono (by omega)); have hln := Nat.lt_of_lt_of_eq (Nat.lt_succ_self _) hzn.symm; clear hzn; (try first | (have hlt := q2.lt; replace q2 := q2.of_eq (hbn.block _ (by omega))) | replace q2 := q2.below (hbn.mono hle)); (try first | (have hlt := r6.lt; replace r6 := r6.of_eq (hbn.block _ (by omega))) | replace r6 := r6.below (hbn.mono hle)); (try first | (have hlt := r7.lt; replace r7 := r7.of_eq (hbn.block _ (by omega))) | replace r7 := r7.below (hbn.mono hle)); (try first | (have hlt := r8.lt; replace r8 := r8.of_eq (hbn.block _ (by omega))) | replace r8 := r8.below (hbn.mono hle)); (try first | (have hlt := r12.lt; replace r12 := r12.of_eq (hbn.block _ (by omega))) | replace r12 := r12.below (hbn.mono hle)); (try first | (have hlt := r15.lt; replace r15 := r15.of_eq (hbn.block _ (by omega))) | replace r15 := r15.below (hbn.mono hle)); (try first | (have hlt := rs1.lt; replace rs1 := rs1.of_eq (hbn.block _ (by omega))) | replace rs1 := rs1.below (hbn.mono hle)); (try first | (have hlt := rs2.lt; replace rs2 := rs2.of_eq (hbn.block _ (by omega))) | replace rs2 := rs2.below (hbn.mono hle)); (try first | (have hlt := rs3.lt; replace rs3 := rs3.of_eq (hbn.block _ (by omega))) | replace rs3 := rs3.below (hbn.mono hle)); (try first | (have hlt := o1.lt; replace o1 := o1.of_eq (hbn.block _ (by omega))) | replace o1 := o1.below (hbn.mono hle)); (try first | (have hlt := o2.lt; replace o2 := o2.of_eq (hbn.block _ (by omega))) | replace o2 := o2.below (hbn.mono hle)); have r12 := ht; clear ht; simp only [Act.put, putS])
      (refine wpList_storeB (t := 30) rfl _ _ rfl _ rfl _ rfl r12 (by kernel_rfl) rfl (by simp [Value.oneCell']) ?_; have r12o := r12; have r12o := r12; clear r12; intro wn ht hcn hzn; (try replace o1 := o1.chgQ r12o (nsl _ _ _) hcn); (try replace o2 := o2.chgQ r12o (nsl _ _ _) hcn); (try replace o3 := o3.chgQ r12o (nsl _ _ _) hcn); (try replace rs1 := rs1.chg r12o (by simp [rcA]) hcn); (try replace rs2 := rs2.chg r12o (by simp [rcA]) hcn); (try replace rs3 := rs3.chg r12o (by simp [rcA]) hcn); (try replace rs4 := rs4.chg r12o (by simp [rcA]) hcn); (try replace rs5 := rs5.chg r12o (by simp [rcA]) hcn); have hsz := B.size; replace hzn := Nat.le_of_eq hzn.symm; replace B := Chg.below B hcn (by omega) B.size; (try replace q2 := q2.of_eq (hcn.block _ q2.lt (by omega))); (try replace r6 := r6.of_eq (hcn.block _ r6.lt (by omega))); (try replace r7 := r7.of_eq (hcn.block _ r7.lt (by omega))); (try replace r8 := r8.of_eq (hcn.block _ r8.lt (by omega))); (try replace r15 := r15.of_eq (hcn.block _ r15.lt (by omega))); (try replace rs1 := rs1.of_eq (hcn.block _ rs1.lt (by omega))); (try replace rs2 := rs2.of_eq (hcn.block _ rs2.lt (by omega))); (try replace rs3 := rs3.of_eq (hcn.block _ rs3.lt (by omega))); have r12 := ht; clear ht; simp only [Act.put, putS])
      refine wpList_nil ?_
      go_upto_region 15 with fail
      refine wp_region_lit ?_
      try simp only [List.getElem_toArray, List.getElem_cons_zero, List.getElem_cons_succ]
      refine wpList_chunk 2 (by kernel_rfl) ?_
      simp only [takS, Nat.reduceAdd]
      repeat (first | go_big_quiet_skip | (go_big_quiet_want; first | (refine quiet_loadAny (t := 30) rfl _ _ _ rfl (fun w hw => run_load_B (ov_B r6 w hw) Try.isAgg30 (by kernel_rfl)) (by rfl) ?_; simp only [Act.put, putS]; go_big_quiet_on) | (refine quiet_loadAny (t := 30) rfl _ _ _ rfl (fun w hw => run_load_B (ov_B r7 w hw) Try.isAgg30 (by kernel_rfl)) (by rfl) ?_; simp only [Act.put, putS]; go_big_quiet_on) | (refine quiet_loadAny (t := 30) rfl _ _ _ rfl (fun w hw => run_load_B (ov_B r8 w hw) Try.isAgg30 (by kernel_rfl)) (by rfl) ?_; simp only [Act.put, putS]; go_big_quiet_on) | (refine quiet_loadAny (t := 30) rfl _ _ _ rfl (fun w hw => run_load_B (ov_B r12 w hw) Try.isAgg30 (by kernel_rfl)) (by rfl) ?_; simp only [Act.put, putS]; go_big_quiet_on) | (refine quiet_loadAny (t := 30) rfl _ _ _ rfl (fun w hw => run_load_B (ov_B r15 w hw) Try.isAgg30 (by kernel_rfl)) (by rfl) ?_; simp only [Act.put, putS]; go_big_quiet_on) | (go_big_quiet_op; go_big_quiet_on)))
      refine wpQuiet_nil ?_
      refine wpList_callF (by first | rfl | simp [Region.wanted, yielded]) rfl (enters_of Try.func45 (by kernel_rfl) rfl) (by simp only [List.map_toArray, List.map_cons, List.map_nil, Act.eval, Array.getD_eq_getD_getElem?, List.getElem?_toArray, List.getElem?_cons_succ, List.getElem?_cons_zero, Option.getD_some]; rfl) ?_
      refine (P_ChangedO _ _ (madeL L) (madeL Ls) M _ rs2 rs3 (madeL_tok L) (madeL_tok Ls) n2.out n3.out (by rw [F2.out, F3.out]; exact HM.out)).mono ?_
      rintro e wn ⟨d3', e3', rfl, o3, hbn⟩
      have hsz := B.size
      have hzn := hbn.size
      replace B := B.trans (hbn.mono B.size)
      (try first | replace q2 := q2.of_eq (hbn.block _ q2.lt) | replace q2 := q2.below hbn)
      (try first | replace r6 := r6.of_eq (hbn.block _ r6.lt) | replace r6 := r6.below hbn)
      (try first | replace r7 := r7.of_eq (hbn.block _ r7.lt) | replace r7 := r7.below hbn)
      (try first | replace r8 := r8.of_eq (hbn.block _ r8.lt) | replace r8 := r8.below hbn)
      (try first | replace r12 := r12.of_eq (hbn.block _ r12.lt) | replace r12 := r12.below hbn)
      (try first | replace r15 := r15.of_eq (hbn.block _ r15.lt) | replace r15 := r15.below hbn)
      (try first | replace rs1 := rs1.of_eq (hbn.block _ rs1.lt) | replace rs1 := rs1.below hbn)
      (try first | replace rs2 := rs2.of_eq (hbn.block _ rs2.lt) | replace rs2 := rs2.below hbn)
      (try first | replace rs3 := rs3.of_eq (hbn.block _ rs3.lt) | replace rs3 := rs3.below hbn)
      (try first | replace o1 := o1.of_eq (hbn.block _ o1.lt) | replace o1 := o1.below hbn)
      (try first | replace o2 := o2.of_eq (hbn.block _ o2.lt) | replace o2 := o2.below hbn)
      (try first | replace o3 := o3.of_eq (hbn.block _ o3.lt) | replace o3 := o3.below hbn)
      refine ⟨_, rfl, ?_⟩
      simp only [Act.put, putS]
      refine wpList_chunk 1 (by kernel_rfl) ?_
      simp only [takS, Nat.reduceAdd]
      repeat (first | go_big_quiet_skip | (go_big_quiet_want; first | (go_big_quiet_op; go_big_quiet_on)))
      refine wpQuiet_nil ?_
      refine wpList_nil ?_
      go_upto_region 16 with fail
      refine wp_region_lit ?_
      try simp only [List.getElem_toArray, List.getElem_cons_zero, List.getElem_cons_succ]
      refine wpList_chunk 1 (by kernel_rfl) ?_
      simp only [takS, Nat.reduceAdd]
      repeat (first | go_big_quiet_skip | (go_big_quiet_want; first | (go_big_quiet_op; go_big_quiet_on)))
      refine wpQuiet_nil ?_
      refine wpList_nil ?_
      go_wp2
      go_loopw [14, 15, 16] (fun iv _ _ wr => ∃ (k n : Nat) (aS : Option Addr) (cs : Nat), k ≤ M.length ∧ iv = .int .i64 (k : Int) ∧ Below w.heap.size w wr ∧ AtB 30 wr b_r7 #[.slice a2 (madeL L).length c2] ∧ AtB 30 wr b_r8 #[.slice a3 (madeL Ls).length c3] ∧ RS (.slice a2 (madeL L).length c2) (madeL L) wr ∧ RS (.slice a3 (madeL Ls).length c3) (madeL Ls) wr ∧ AtB 30 wr b_r12 #[.slice aS n cs] ∧ RS (.slice aS n cs) (mvL (madeL Ls) (madeL L) (M.take k)) wr ∧ n = (mvL (madeL Ls) (madeL L) (M.take k)).length ∧ RSE psE (.slice d3' M.length e3') M wr) (fun iv _ _ _ => (M.length - intOf iv).toNat)
      case atStart => exact ⟨0, _, _, _, by omega, rfl, B, r7, r8, rs2, rs3, r12, rs2, rfl, o3⟩
      case round =>
        clear B r7 r8 rs2 rs3 r12 o3
        obtain ⟨k, n, aS, cs, hk, rfl, B, r7, r8, rs2, rs3, r12, rs4, hn, o3⟩ := hrel
        have HN := Lib.hid hn
        clear hn
        have TS := Lib.hid (mvL_tok (madeL_tok Ls) (madeL_tok L) (M.take k))
        have LS := Lib.hid (len_maxLen (Nat.le_trans (HMV.out k).2 (by omega)))
        by_cases hkl : k < M.length
        · have q1 : decide ((k : Int) < (M.length : Int)) = true := decide_eq_true (by omega)
          have q2 : decide (k < M.length) = true := decide_eq_true hkl
          go_upto_region 17 with fail
          refine wp_region_lit ?_
          try simp only [List.getElem_toArray, List.getElem_cons_zero, List.getElem_cons_succ]
          refine wpList_chunk 2 (by kernel_rfl) ?_
          simp only [takS, Nat.reduceAdd]
          repeat (first | go_big_quiet_skip | (go_big_quiet_want; first | (go_big_quiet_op; go_big_quiet_on)))
          refine wpQuiet_nil ?_
          refine wpList_lenS (by first | rfl | simp [Region.wanted, yielded]) rfl Try.underlying88 rfl ?_
          simp only [Act.put, putS]
          refine wpList_chunk 1 (by kernel_rfl) ?_
          simp only [takS, Nat.reduceAdd]
          repeat (first | go_big_quiet_skip | (go_big_quiet_want; first | (go_big_quiet_op; go_big_quiet_on)))
          refine wpQuiet_nil ?_
          refine wpList_nil ?_
          obtain ⟨g3, p3, rfl, rc3⟩ := o3.at (by omega)
          obtain ⟨⟨x, y⟩, hq⟩ : ∃ p, M[k]? = some p := ⟨_, List.getElem?_eq_getElem hkl⟩
          have HST := Lib.hid (HMS.out k hkl x y hq)
          go_upto_region 19 with fail
          try simp only [List.getElem_toArray, List.getElem_cons_zero, List.getElem_cons_succ]
          try have lx_q2 := q2.lt
          try have lx_r6 := r6.lt
          try have lx_r7 := r7.lt
          try have lx_r8 := r8.lt
          try have lx_r12 := r12.lt
          try have lx_r15 := r15.lt
          try have lx_rs1 := rs1.lt
          try have lx_rs2 := rs2.lt
          try have lx_rs3 := rs3.lt
          try have lx_rs4 := rs4.lt
          try have lx_o1 := o1.lt
          try have lx_o2 := o2.lt
          try have lx_o3 := o3.lt
          try have lx_rc3 := rc3.lt
          refine wp_region_RL 16 [(10, detS ?v2_10), (11, tupS ((mvL (madeL Ls) (madeL L) (M.take (k + 1)))) (0)), (15, ptrS (wr.heap.size) 30 #[.slice none 0 0])] (by kernel_rfl) (by kernel_rfl) (by kernel_rfl) ?_
          rotate_left 1
          simp only [takS, Nat.reduceAdd]
          refine wpRL_chunk 10 (by kernel_rfl) ?_
          simp only [takS, Nat.reduceAdd]
          repeat (first | go_big_quiet_skip | (go_big_quiet_want; first | (refine quiet_loadAny (t := 24) rfl _ _ _ rfl (fun w hw => rce_ps (ov_rce rc3 w hw) hq) (by first | rfl | omega) ?_; simp only [Act.put, putS]; go_big_quiet_on) | (refine quiet_loadAny (t := 30) rfl _ _ _ rfl (fun w hw => run_load_B (ov_B r6 w hw) Try.isAgg30 (by kernel_rfl)) (by rfl) ?_; simp only [Act.put, putS]; go_big_quiet_on) | (refine quiet_loadAny (t := 30) rfl _ _ _ rfl (fun w hw => run_load_B (ov_B r7 w hw) Try.isAgg30 (by kernel_rfl)) (by rfl) ?_; simp only [Act.put, putS]; go_big_quiet_on) | (refine quiet_loadAny (t := 30) rfl _ _ _ rfl (fun w hw => run_load_B (ov_B r8 w hw) Try.isAgg30 (by kernel_rfl)) (by rfl) ?_; simp only [Act.put, putS]; go_big_quiet_on) | (refine quiet_loadAny (t := 30) rfl _ _ _ rfl (fun w hw => run_load_B (ov_B r12 w hw) Try.isAgg30 (by kernel_rfl)) (by rfl) ?_; simp only [Act.put, putS]; go_big_quiet_on) | (refine quiet_loadAny (t := 30) rfl _ _ _ rfl (fun w hw => run_load_B (ov_B r15 w hw) Try.isAgg30 (by kernel_rfl)) (by rfl) ?_; simp only [Act.put, putS]; go_big_quiet_on) | (go_big_quiet_op; go_big_quiet_on)))
          refine wpQuiet_nil ?_
          refine wpRL_callB (by rfl) (by first | rfl | simp [Region.wanted, yielded]) ?_ ?_
          · intro wn hbn hE Kx hKx
            have hsz := B.size
            have hzn := hbn.size
            replace B := B.trans (hbn.mono B.size)
            (try first | replace q2 := q2.of_eq (hbn.block _ q2.lt) | replace q2 := q2.below hbn)
            (try first | replace r6 := r6.of_eq (hbn.block _ r6.lt) | replace r6 := r6.below hbn)
            (try first | replace r7 := r7.of_eq (hbn.block _ r7.lt) | replace r7 := r7.below hbn)
            (try first | replace r8 := r8.of_eq (hbn.block _ r8.lt) | replace r8 := r8.below hbn)
            (try first | replace r12 := r12.of_eq (hbn.block _ r12.lt) | replace r12 := r12.below hbn)
            (try first | replace r15 := r15.of_eq (hbn.block _ r15.lt) | replace r15 := r15.below hbn)
            (try first | replace rs1 := rs1.of_eq (hbn.block _ rs1.lt) | replace rs1 := rs1.below hbn)
            (try first | replace rs2 := rs2.of_eq (hbn.block _ rs2.lt) | replace rs2 := rs2.below hbn)
            (try first | replace rs3 := rs3.of_eq (hbn.block _ rs3.lt) | replace rs3 := rs3.below hbn)
            (try first | replace rs4 := rs4.of_eq (hbn.block _ rs4.lt) | replace rs4 := rs4.below hbn)
            (try first | replace o1 := o1.of_eq (hbn.block _ o1.lt) | replace o1 := o1.below hbn)
            (try first | replace o2 := o2.of_eq (hbn.block _ o2.lt) | replace o2 := o2.below hbn)
            (try first | replace o3 := o3.of_eq (hbn.block _ o3.lt) | replace o3 := o3.below hbn)
            (try first | replace rc3 := rc3.of_eq (hbn.block _ rc3.lt) | replace rc3 := rc3.below hbn)
            refine wp_callF rfl (enters_of Try.func22 (by kernel_rfl) rfl) (by simp only [List.map_toArray, List.map_cons, List.map_nil, Act.eval, Array.getD_eq_getD_getElem?, List.getElem?_toArray, List.getElem?_cons_succ, List.getElem?_cons_zero, Option.getD_some]; rfl) ?_
            refine (P_TileQ _ (madeL Ls) x y _ rs3 n3.out).mono ?_
            rintro e wm ⟨rfl, hbm⟩
            refine ⟨_, rfl, ?_⟩
            have hz := hKx () wm trivial hbm
            dsimp only [detS] at hz
            exact hz
          rintro ⟨⟩
          dsimp only [detS]
          simp only [Act.put, putS]
          refine wpRL_callB (by rfl) (by first | rfl | simp [Region.wanted, yielded]) ?_ ?_
          · intro wn hbn hE Kx hKx
            have hsz := B.size
            have hzn := hbn.size
            replace B := B.trans (hbn.mono B.size)
            (try first | replace q2 := q2.of_eq (hbn.block _ q2.lt) | replace q2 := q2.below hbn)
            (try first | replace r6 := r6.of_eq (hbn.block _ r6.lt) | replace r6 := r6.below hbn)
            (try first | replace r7 := r7.of_eq (hbn.block _ r7.lt) | replace r7 := r7.below hbn)
            (try first | replace r8 := r8.of_eq (hbn.block _ r8.lt) | replace r8 := r8.below hbn)
            (try first | replace r12 := r12.of_eq (hbn.block _ r12.lt) | replace r12 := r12.below hbn)
            (try first | replace r15 := r15.of_eq (hbn.block _ r15.lt) | replace r15 := r15.below hbn)
            (try first | replace rs1 := rs1.of_eq (hbn.block _ rs1.lt) | replace rs1 := rs1.below hbn)
            (try first | replace rs2 := rs2.of_eq (hbn.block _ rs2.lt) | replace rs2 := rs2.below hbn)
            (try first | replace rs3 := rs3.of_eq (hbn.block _ rs3.lt) | replace rs3 := rs3.below hbn)
            (try first | replace rs4 := rs4.of_eq (hbn.block _ rs4.lt) | replace rs4 := rs4.below hbn)
            (try first | replace o1 := o1.of_eq (hbn.block _ o1.lt) | replace o1 := o1.below hbn)
            (try first | replace o2 := o2.of_eq (hbn.block _ o2.lt) | replace o2 := o2.below hbn)
            (try first | replace o3 := o3.of_eq (hbn.block _ o3.lt) | replace o3 := o3.below hbn)
            (try first | replace rc3 := rc3.of_eq (hbn.block _ rc3.lt) | replace rc3 := rc3.below hbn)
            refine wp_callF rfl (enters_of Try.func28 (by kernel_rfl) rfl) (by simp only [List.map_toArray, List.map_cons, List.map_nil, Act.eval, Array.getD_eq_getD_getElem?, List.getElem?_toArray, List.getElem?_cons_succ, List.getElem?_cons_zero, Option.getD_some]; rfl) ?_
            refine (P_PutM _ (mvL (madeL Ls) (madeL L) (M.take k)) (mvL (madeL Ls) (madeL L) (M.take (k + 1))) x y (tileL (madeL Ls) x y) _ rs4 TS.out LS.out (tileL_tok (madeL_tok Ls) x y) HST.out.1 HST.out.2).mono ?_
            rintro e wm ⟨v', rfl, hr, hbm⟩
            obtain ⟨a', c', rfl, _⟩ := hr.len
            exact ⟨_, rfl, hKx (a', c') wm hr hbm⟩
          rintro ⟨a93, c93⟩
          dsimp only [detS, tupS]
          simp only [Act.put, putS]
          refine wpRL_chunk 3 (by kernel_rfl) ?_
          simp only [takS, Nat.reduceAdd]
          repeat (first | go_big_quiet_skip | (go_big_quiet_want; first | (go_big_quiet_op; go_big_quiet_on)))
          refine wpQuiet_nil ?_
          refine wpRL_callB (by rfl) (by first | rfl | simp [Region.wanted, yielded]) ?_ ?_
          · intro wn hbn hE Kx hKx
            have hsz := B.size
            have hzn := hbn.size
            replace B := B.trans (hbn.mono B.size)
            (try first | replace q2 := q2.of_eq (hbn.block _ q2.lt) | replace q2 := q2.below hbn)
            (try first | replace r6 := r6.of_eq (hbn.block _ r6.lt) | replace r6 := r6.below hbn)
            (try first | replace r7 := r7.of_eq (hbn.block _ r7.lt) | replace r7 := r7.below hbn)
            (try first | replace r8 := r8.of_eq (hbn.block _ r8.lt) | replace r8 := r8.below hbn)
            (try first | replace r12 := r12.of_eq (hbn.block _ r12.lt) | replace r12 := r12.below hbn)
            (try first | replace r15 := r15.of_eq (hbn.block _ r15.lt) | replace r15 := r15.below hbn)
            (try first | replace rs1 := rs1.of_eq (hbn.block _ rs1.lt) | replace rs1 := rs1.below hbn)
            (try first | replace rs2 := rs2.of_eq (hbn.block _ rs2.lt) | replace rs2 := rs2.below hbn)
            (try first | replace rs3 := rs3.of_eq (hbn.block _ rs3.lt) | replace rs3 := rs3.below hbn)
            (try first | replace rs4 := rs4.of_eq (hbn.block _ rs4.lt) | replace rs4 := rs4.below hbn)
            (try first | replace o1 := o1.of_eq (hbn.block _ o1.lt) | replace o1 := o1.below hbn)
            (try first | replace o2 := o2.of_eq (hbn.block _ o2.lt) | replace o2 := o2.below hbn)
            (try first | replace o3 := o3.of_eq (hbn.block _ o3.lt) | replace o3 := o3.below hbn)
            (try first | replace rc3 := rc3.of_eq (hbn.block _ rc3.lt) | replace rc3 := rc3.below hbn)
            refine owp_allocBk (t := 30) _ (run_alloc_R _ _ rfl) ?_
            intro b wm h1 h2 ht hbm hzm
            exact hKx b wm ⟨Nat.le_trans hbn.size h1, ht⟩ (hbm.mono h1)
          rintro b_r15
          dsimp only [detS, ptrS]
          simp only [Act.put, putS]
          refine wpRL_nil ?_
          intro wn hbn hE
          have hsz := B.size
          have hzn := hbn.size
          replace B := B.trans (hbn.mono B.size)
          (try first | replace q2 := q2.of_eq (hbn.block _ q2.lt) | replace q2 := q2.below hbn)
          (try first | replace r6 := r6.of_eq (hbn.block _ r6.lt) | replace r6 := r6.below hbn)
          (try first | replace r7 := r7.of_eq (hbn.block _ r7.lt) | replace r7 := r7.below hbn)
          (try first | replace r8 := r8.of_eq (hbn.block _ r8.lt) | replace r8 := r8.below hbn)
          (try first | replace r12 := r12.of_eq (hbn.block _ r12.lt) | replace r12 := r12.below hbn)
          (try first | replace r15 := r15.of_eq (hbn.block _ r15.lt) | replace r15 := r15.below hbn)
          (try first | replace rs1 := rs1.of_eq (hbn.block _ rs1.lt) | replace rs1 := rs1.below hbn)
          (try first | replace rs2 := rs2.of_eq (hbn.block _ rs2.lt) | replace rs2 := rs2.below hbn)
          (try first | replace rs3 := rs3.of_eq (hbn.block _ rs3.lt) | replace rs3 := rs3.below hbn)
          (try first | replace rs4 := rs4.of_eq (hbn.block _ rs4.lt) | replace rs4 := rs4.below hbn)
          (try first | replace o1 := o1.of_eq (hbn.block _ o1.lt) | replace o1 := o1.below hbn)
          (try first | replace o2 := o2.of_eq (hbn.block _ o2.lt) | replace o2 := o2.below hbn)
          (try first | replace o3 := o3.of_eq (hbn.block _ o3.lt) | replace o3 := o3.below hbn)
          (try first | replace rc3 := rc3.of_eq (hbn.block _ rc3.lt) | replace rc3 := rc3.below hbn)
          have rs5 := hE 11
          change RS _ _ _ at rs5
          obtain ⟨hge_r15, r15⟩ : _ ∧ AtB _ _ _ _ := hE 15
          clear hE
          try simp only [List.drop_succ_cons, List.drop_zero]
          go_wp2_with (first | (refine wpList_storeB (t := 30) rfl _ _ rfl _ rfl _ rfl r15 (by kernel_rfl) rfl (by simp [Value.oneCell']) ?_; have r15o := r15; have r15o := r15; clear r15; intro wn ht hcn hzn; (try replace o1 := o1.chgQ r15o (nsl _ _ _) hcn); (try replace o2 := o2.chgQ r15o (nsl _ _ _) hcn); (try replace o3 := o3.chgQ r15o (nsl _ _ _) hcn); (try replace rs1 := rs1.chg r15o (by simp [rcA]) hcn); (try replace rs2 := rs2.chg r15o (by simp [rcA]) hcn); (try replace rs3 := rs3.chg r15o (by simp [rcA]) hcn); (try replace rs4 := rs4.chg r15o (by simp [rcA]) hcn); (try replace rs5 := rs5.chg r15o (by simp [rcA]) hcn); have hsz := B.size; replace hzn := Nat.le_of_eq hzn.symm; replace B := Chg.below B hcn (by omega) B.size; (try replace q2 := q2.of_eq (hcn.block _ q2.lt (by omega))); (try replace r6 := r6.of_eq (hcn.block _ r6.lt (by omega))); (try replace r7 := r7.of_eq (hcn.block _ r7.lt (by omega))); (try replace r8 := r8.of_eq (hcn.block _ r8.lt (by omega))); (try replace r12 := r12.of_eq (hcn.block _ r12.lt (by omega))); (try replace rs1 := rs1.of_eq (hcn.block _ rs1.lt (by omega))); (try replace rs2 := rs2.of_eq (hcn.block _ rs2.lt (by omega))); (try replace rs3 := rs3.of_eq (hcn.block _ rs3.lt (by omega))); (try replace rs4 := rs4.of_eq (hcn.block _ rs4.lt (by omega))); (try replace rs5 := rs5.of_eq (hcn.block _ rs5.lt (by omega))); have r15 := ht; clear ht; simp only [Act.put, putS]) | fail)
          refine NoPan.normal ?_
          go_upto_region 20 with fail
          refine wp_region_lit ?_
          try simp only [List.getElem_toArray, List.getElem_cons_zero, List.getElem_cons_succ]
          refine wpList_chunk 2 (by kernel_rfl) ?_
          simp only [takS, Nat.reduceAdd]
          repeat (first | go_big_quiet_skip | (go_big_quiet_want; first | (go_big_quiet_op; go_big_quiet_on)))
          refine wpQuiet_nil ?_
          refine wpList_nil ?_
          go_upto_region 22 with fail
          refine wp_region_lit ?_
          try simp only [List.getElem_toArray, List.getElem_cons_zero, List.getElem_cons_succ]
          refine wpList_chunk 1 (by kernel_rfl) ?_
          simp only [takS, Nat.reduceAdd]
          repeat (first | go_big_quiet_skip | (go_big_quiet_want; first | (refine quiet_loadAny (t := 30) rfl _ _ _ rfl (fun w hw => run_load_B (ov_B r6 w hw) Try.isAgg30 (by kernel_rfl)) (by rfl) ?_; simp only [Act.put, putS]; go_big_quiet_on) | (refine quiet_loadAny (t := 30) rfl _ _ _ rfl (fun w hw => run_load_B (ov_B r7 w hw) Try.isAgg30 (by kernel_rfl)) (by rfl) ?_; simp only [Act.put, putS]; go_big_quiet_on) | (refine quiet_loadAny (t := 30) rfl _ _ _ rfl (fun w hw => run_load_B (ov_B r8 w hw) Try.isAgg30 (by kernel_rfl)) (by rfl) ?_; simp only [Act.put, putS]; go_big_quiet_on) | (refine quiet_loadAny (t := 30) rfl _ _ _ rfl (fun w hw => run_load_B (ov_B r12 w hw) Try.isAgg30 (by kernel_rfl)) (by rfl) ?_; simp only [Act.put, putS]; go_big_quiet_on) | (refine quiet_loadAny (t := 30) rfl _ _ _ rfl (fun w hw => run_load_B (ov_B r15 w hw) Try.isAgg30 (by kernel_rfl)) (by rfl) ?_; simp only [Act.put, putS]; go_big_quiet_on) | (go_big_quiet_op; go_big_quiet_on)))
          refine wpQuiet_nil ?_
          (refine wpList_storeB (t := 30) rfl _ _ rfl _ rfl _ rfl r12 (by kernel_rfl) rfl (by simp [Value.oneCell']) ?_; have r12o := r12; have r12o := r12; clear r12; intro wn ht hcn hzn; (try replace o1 := o1.chgQ r12o (nsl _ _ _) hcn); (try replace o2 := o2.chgQ r12o (nsl _ _ _) hcn); (try replace o3 := o3.chgQ r12o (nsl _ _ _) hcn); (try replace rs1 := rs1.chg r12o (by simp [rcA]) hcn); (try replace rs2 := rs2.chg r12o (by simp [rcA]) hcn); (try replace rs3 := rs3.chg r12o (by simp [rcA]) hcn); (try replace rs4 := rs4.chg r12o (by simp [rcA]) hcn); (try replace rs5 := rs5.chg r12o (by simp [rcA]) hcn); have hsz := B.size; replace hzn := Nat.le_of_eq hzn.symm; replace B := Chg.below B hcn (by omega) B.size; (try replace q2 := q2.of_eq (hcn.block _ q2.lt (by omega))); (try replace r6 := r6.of_eq (hcn.block _ r6.lt (by omega))); (try replace r7 := r7.of_eq (hcn.block _ r7.lt (by omega))); (try replace r8 := r8.of_eq (hcn.block _ r8.lt (by omega))); (try replace r15 := r15.of_eq (hcn.block _ r15.lt (by omega))); (try replace rs1 := rs1.of_eq (hcn.block _ rs1.lt (by omega))); (try replace rs2 := rs2.of_eq (hcn.block _ rs2.lt (by omega))); (try replace rs3 := rs3.of_eq (hcn.block _ rs3.lt (by omega))); (try replace rs4 := rs4.of_eq (hcn.block _ rs4.lt (by omega))); (try replace rs5 := rs5.of_eq (hcn.block _ rs5.lt (by omega))); have r12 := ht; clear ht; simp only [Act.put, putS])
          refine wpList_nil ?_
          go_wp2
          go_roundw
          case rel => exact ⟨k + 1, _, _, _, by omega, by go_num, B, r7, r8, rs2, rs3, r12, rs5, rfl, o3⟩
          case measure => simp [intOf]; omega
        · obtain rfl : k = M.length := by omega
          have q1 : decide (((M.length : Nat) : Int) < (M.length : Int)) = false := decide_eq_false (by omega)
          have q2 : decide (M.length < M.length) = false := decide_eq_false (by omega)
          have e0 : M.take M.length = M := List.take_length
          rw [e0] at rs4 TS LS HN
          have d4 : ((M.length : Int) == (M.length : Int)) = true := by simp
          have F4 := Lib.hid (fineL_of MA.out.1)
          obtain rfl := HN.out
          go_upto_region 17 with fail
          refine wp_region_lit ?_
          try simp only [List.getElem_toArray, List.getElem_cons_zero, List.getElem_cons_succ]
          refine wpList_chunk 2 (by kernel_rfl) ?_
          simp only [takS, Nat.reduceAdd]
          repeat (first | go_big_quiet_skip | (go_big_quiet_want; first | (go_big_quiet_op; go_big_quiet_on)))
          refine wpQuiet_nil ?_
          refine wpList_lenS (by first | rfl | simp [Region.wanted, yielded]) rfl Try.underlying88 rfl ?_
          simp only [Act.put, putS]
          refine wpList_chunk 1 (by kernel_rfl) ?_
          simp only [takS, Nat.reduceAdd]
          repeat (first | go_big_quiet_skip | (go_big_quiet_want; first | (go_big_quiet_op; go_big_quiet_on)))
          refine wpQuiet_nil ?_
          refine wpList_nil ?_
          go_upto_region 23 with fail
          refine wp_region_lit ?_
          try simp only [List.getElem_toArray, List.getElem_cons_zero, List.getElem_cons_succ]
          refine wpList_chunk 4 (by kernel_rfl) ?_
          simp only [takS, Nat.reduceAdd]
          repeat (first | go_big_quiet_skip | (go_big_quiet_want; first | (refine quiet_loadAny (t := 30) rfl _ _ _ rfl (fun w hw => run_load_B (ov_B r6 w hw) Try.isAgg30 (by kernel_rfl)) (by rfl) ?_; simp only [Act.put, putS]; go_big_quiet_on) | (refine quiet_loadAny (t := 30) rfl _ _ _ rfl (fun w hw => run_load_B (ov_B r7 w hw) Try.isAgg30 (by kernel_rfl)) (by rfl) ?_; simp only [Act.put, putS]; go_big_quiet_on) | (refine quiet_loadAny (t := 30) rfl _ _ _ rfl (fun w hw => run_load_B (ov_B r8 w hw) Try.isAgg30 (by kernel_rfl)) (by rfl) ?_; simp only [Act.put, putS]; go_big_quiet_on) | (refine quiet_loadAny (t := 30) rfl _ _ _ rfl (fun w hw => run_load_B (ov_B r12 w hw) Try.isAgg30 (by kernel_rfl)) (by rfl) ?_; simp only [Act.put, putS]; go_big_quiet_on) | (refine quiet_loadAny (t := 30) rfl _ _ _ rfl (fun w hw => run_load_B (ov_B r15 w hw) Try.isAgg30 (by kernel_rfl)) (by rfl) ?_; simp only [Act.put, putS]; go_big_quiet_on) | (go_big_quiet_op; go_big_quiet_on)))
          refine wpQuiet_nil ?_
          refine wpList_callF (by first | rfl | simp [Region.wanted, yielded]) rfl (enters_of Try.func44 (by kernel_rfl) rfl) (by simp only [List.map_toArray, List.map_cons, List.map_nil, Act.eval, Array.getD_eq_getD_getElem?, List.getElem?_toArray, List.getElem?_cons_succ, List.getElem?_cons_zero, Option.getD_some]; rfl) ?_
          refine (P_EqualO _ _ (mvL (madeL Ls) (madeL L) M) (madeL Ls) true _ rs4 rs3 TS.out (madeL_tok Ls) LS.out n3.out (by rw [F4.out, F3.out]; exact MA.out.2.1)).mono ?_
          rintro e wn ⟨rfl, hbn⟩
          have hsz := B.size
          have hzn := hbn.size
          replace B := B.trans (hbn.mono B.size)
          (try first | replace q2 := q2.of_eq (hbn.block _ q2.lt) | replace q2 := q2.below hbn)
          (try first | replace r6 := r6.of_eq (hbn.block _ r6.lt) | replace r6 := r6.below hbn)
          (try first | replace r7 := r7.of_eq (hbn.block _ r7.lt) | replace r7 := r7.below hbn)
          (try first | replace r8 := r8.of_eq (hbn.block _ r8.lt) | replace r8 := r8.below hbn)
          (try first | replace r12 := r12.of_eq (hbn.block _ r12.lt) | replace r12 := r12.below hbn)
          (try first | replace r15 := r15.of_eq (hbn.block _ r15.lt) | replace r15 := r15.below hbn)
          (try first | replace rs1 := rs1.of_eq (hbn.block _ rs1.lt) | replace rs1 := rs1.below hbn)
          (try first | replace rs2 := rs2.of_eq (hbn.block _ rs2.lt) | replace rs2 := rs2.below hbn)
          (try first | replace rs3 := rs3.of_eq (hbn.block _ rs3.lt) | replace rs3 := rs3.below hbn)
          (try first | replace rs4 := rs4.of_eq (hbn.block _ rs4.lt) | replace rs4 := rs4.below hbn)
          (try first | replace rs5 := rs5.of_eq (hbn.block _ rs5.lt) | replace rs5 := rs5.below hbn)
          (try first | replace o1 := o1.of_eq (hbn.block _ o1.lt) | replace o1 := o1.below hbn)
          (try first | replace o2 := o2.of_eq (hbn.block _ o2.lt) | replace o2 := o2.below hbn)
          (try first | replace o3 := o3.of_eq (hbn.block _ o3.lt) | replace o3 := o3.below hbn)
          refine ⟨_, rfl, ?_⟩
          simp only [Act.put, putS]
          refine wpList_chunk 4 (by kernel_rfl) ?_
          simp only [takS, Nat.reduceAdd]
          repeat (first | go_big_quiet_skip | (go_big_quiet_want; first | (refine quiet_loadAny (t := 30) rfl _ _ _ rfl (fun w hw => run_load_B (ov_B r6 w hw) Try.isAgg30 (by kernel_rfl)) (by rfl) ?_; simp only [Act.put, putS]; go_big_quiet_on) | (refine quiet_loadAny (t := 30) rfl _ _ _ rfl (fun w hw => run_load_B (ov_B r7 w hw) Try.isAgg30 (by kernel_rfl)) (by rfl) ?_; simp only [Act.put, putS]; go_big_quiet_on) | (refine quiet_loadAny (t := 30) rfl _ _ _ rfl (fun w hw => run_load_B (ov_B r8 w hw) Try.isAgg30 (by kernel_rfl)) (by rfl) ?_; simp only [Act.put, putS]; go_big_quiet_on) | (refine quiet_loadAny (t := 30) rfl _ _ _ rfl (fun w hw => run_load_B (ov_B r12 w hw) Try.isAgg30 (by kernel_rfl)) (by rfl) ?_; simp only [Act.put, putS]; go_big_quiet_on) | (refine quiet_loadAny (t := 30) rfl _ _ _ rfl (fun w hw => run_load_B (ov_B r15 w hw) Try.isAgg30 (by kernel_rfl)) (by rfl) ?_; simp only [Act.put, putS]; go_big_quiet_on) | (go_big_quiet_op; go_big_quiet_on)))
          refine wpQuiet_nil ?_
          refine wpList_callF (by first | rfl | simp [Region.wanted, yielded]) rfl (enters_of Try.func45 (by kernel_rfl) rfl) (by simp only [List.map_toArray, List.map_cons, List.map_nil, Act.eval, Array.getD_eq_getD_getElem?, List.getElem?_toArray, List.getElem?_cons_succ, List.getElem?_cons_zero, Option.getD_some]; rfl) ?_
          refine (P_ChangedN _ _ (mvL (madeL Ls) (madeL L) M) (madeL Ls) 0 _ rs4 rs3 TS.out (madeL_tok Ls) LS.out n3.out (by rw [F4.out, F3.out, MA.out.2.2]; rfl)).mono ?_
          rintro e wn ⟨a5, c5, rfl, hbn⟩
          have hsz := B.size
          have hzn := hbn.size
          replace B := B.trans (hbn.mono B.size)
          (try first | replace q2 := q2.of_eq (hbn.block _ q2.lt) | replace q2 := q2.below hbn)
          (try first | replace r6 := r6.of_eq (hbn.block _ r6.lt) | replace r6 := r6.below hbn)
          (try first | replace r7 := r7.of_eq (hbn.block _ r7.lt) | replace r7 := r7.below hbn)
          (try first | replace r8 := r8.of_eq (hbn.block _ r8.lt) | replace r8 := r8.below hbn)
          (try first | replace r12 := r12.of_eq (hbn.block _ r12.lt) | replace r12 := r12.below hbn)
          (try first | replace r15 := r15.of_eq (hbn.block _ r15.lt) | replace r15 := r15.below hbn)
          (try first | replace rs1 := rs1.of_eq (hbn.block _ rs1.lt) | replace rs1 := rs1.below hbn)
          (try first | replace rs2 := rs2.of_eq (hbn.block _ rs2.lt) | replace rs2 := rs2.below hbn)
          (try first | replace rs3 := rs3.of_eq (hbn.block _ rs3.lt) | replace rs3 := rs3.below hbn)
          (try first | replace rs4 := rs4.of_eq (hbn.block _ rs4.lt) | replace rs4 := rs4.below hbn)
          (try first | replace rs5 := rs5.of_eq (hbn.block _ rs5.lt) | replace rs5 := rs5.below hbn)
          (try first | replace o1 := o1.of_eq (hbn.block _ o1.lt) | replace o1 := o1.below hbn)
          (try first | replace o2 := o2.of_eq (hbn.block _ o2.lt) | replace o2 := o2.below hbn)
          (try first | replace o3 := o3.of_eq (hbn.block _ o3.lt) | replace o3 := o3.below hbn)
          refine ⟨_, rfl, ?_⟩
          simp only [Act.put, putS]
          refine wpList_lenS (by first | rfl | simp [Region.wanted, yielded]) rfl Try.underlying88 rfl ?_
          simp only [Act.put, putS]
          refine wpList_chunk 5 (by kernel_rfl) ?_
          simp only [takS, Nat.reduceAdd]
          repeat (first | go_big_quiet_skip | (go_big_quiet_want; first | (refine quiet_loadAny (t := 30) rfl _ _ _ rfl (fun w hw => run_load_B (ov_B r6 w hw) Try.isAgg30 (by kernel_rfl)) (by rfl) ?_; simp only [Act.put, putS]; go_big_quiet_on) | (refine quiet_loadAny (t := 30) rfl _ _ _ rfl (fun w hw => run_load_B (ov_B r7 w hw) Try.isAgg30 (by kernel_rfl)) (by rfl) ?_; simp only [Act.put, putS]; go_big_quiet_on) | (refine quiet_loadAny (t := 30) rfl _ _ _ rfl (fun w hw => run_load_B (ov_B r8 w hw) Try.isAgg30 (by kernel_rfl)) (by rfl) ?_; simp only [Act.put, putS]; go_big_quiet_on) | (refine quiet_loadAny (t := 30) rfl _ _ _ rfl (fun w hw => run_load_B (ov_B r12 w hw) Try.isAgg30 (by kernel_rfl)) (by rfl) ?_; simp only [Act.put, putS]; go_big_quiet_on) | (refine quiet_loadAny (t := 30) rfl _ _ _ rfl (fun w hw => run_load_B (ov_B r15 w hw) Try.isAgg30 (by kernel_rfl)) (by rfl) ?_; simp only [Act.put, putS]; go_big_quiet_on) | (go_big_quiet_op; go_big_quiet_on)))
          refine wpQuiet_nil ?_
          refine wpList_callF (by first | rfl | simp [Region.wanted, yielded]) rfl (enters_of Try.func45 (by kernel_rfl) rfl) (by simp only [List.map_toArray, List.map_cons, List.map_nil, Act.eval, Array.getD_eq_getD_getElem?, List.getElem?_toArray, List.getElem?_cons_succ, List.getElem?_cons_zero, Option.getD_some]; rfl) ?_
          refine (P_ChangedN _ _ (madeL Ls) (madeL L) M.length _ rs3 rs2 (madeL_tok Ls) (madeL_tok L) n3.out n2.out (by rw [F2.out, F3.out]; exact HMC.out)).mono ?_
          rintro e wn ⟨a6, c6, rfl, hbn⟩
          have hsz := B.size
          have hzn := hbn.size
          replace B := B.trans (hbn.mono B.size)
          (try first | replace q2 := q2.of_eq (hbn.block _ q2.lt) | replace q2 := q2.below hbn)
          (try first | replace r6 := r6.of_eq (hbn.block _ r6.lt) | replace r6 := r6.below hbn)
          (try first | replace r7 := r7.of_eq (hbn.block _ r7.lt) | replace r7 := r7.below hbn)
          (try first | replace r8 := r8.of_eq (hbn.block _ r8.lt) | replace r8 := r8.below hbn)
          (try first | replace r12 := r12.of_eq (hbn.block _ r12.lt) | replace r12 := r12.below hbn)
          (try first | replace r15 := r15.of_eq (hbn.block _ r15.lt) | replace r15 := r15.below hbn)
          (try first | replace rs1 := rs1.of_eq (hbn.block _ rs1.lt) | replace rs1 := rs1.below hbn)
          (try first | replace rs2 := rs2.of_eq (hbn.block _ rs2.lt) | replace rs2 := rs2.below hbn)
          (try first | replace rs3 := rs3.of_eq (hbn.block _ rs3.lt) | replace rs3 := rs3.below hbn)
          (try first | replace rs4 := rs4.of_eq (hbn.block _ rs4.lt) | replace rs4 := rs4.below hbn)
          (try first | replace rs5 := rs5.of_eq (hbn.block _ rs5.lt) | replace rs5 := rs5.below hbn)
          (try first | replace o1 := o1.of_eq (hbn.block _ o1.lt) | replace o1 := o1.below hbn)
          (try first | replace o2 := o2.of_eq (hbn.block _ o2.lt) | replace o2 := o2.below hbn)
          (try first | replace o3 := o3.of_eq (hbn.block _ o3.lt) | replace o3 := o3.below hbn)
          refine ⟨_, rfl, ?_⟩
          simp only [Act.put, putS]
          refine wpList_lenS (by first | rfl | simp [Region.wanted, yielded]) rfl Try.underlying88 rfl ?_
          simp only [Act.put, putS]
          refine wpList_chunk 1 (by kernel_rfl) ?_
          simp only [takS, Nat.reduceAdd]
          repeat (first | go_big_quiet_skip | (go_big_quiet_want; first | (go_big_quiet_op; go_big_quiet_on)))
          refine wpQuiet_nil ?_
          refine wpList_lenS (by first | rfl | simp [Region.wanted, yielded]) rfl Try.underlying88 rfl ?_
          simp only [Act.put, putS]
          refine wpList_chunk 3 (by kernel_rfl) ?_
          simp only [takS, Nat.reduceAdd]
          repeat (first | go_big_quiet_skip | (go_big_quiet_want; first | (go_big_quiet_op; go_big_quiet_on)))
          refine wpQuiet_nil ?_
          refine wpList_nil ?_
          go_wp2
          go_ret
          exact ⟨rfl, B⟩
namespace rasterChanged
open Go.ChangeShapes Go.WideShapes Go.ChangeAt Go.RowKit
open Go.ChangeMaps (open_string shut_string)
set_option maxRecDepth 100000 in
theorem lifted (os : Os) (started : os.Started) (H : Type) (enc : TypeId × Value → H) :
    ReturnsInHanded {} Try.checked os 11 .any (Rows.rasterChangedSpec.pre6 enc Try.prog Try.f11 Rows.rasterChangedRow.domain false) (Rows.rasterChangedSpec.post enc Try.prog Try.f11 false true false false) := by
  refine returnsInHanded_of_change_sized (C := Try.checked) own started (by kernel_rfl) Try.func11
    (ChangeSpec.witness6 (enc := enc) (C := Try.checked) false ⟨#[], #[.agg #[.slice none 0 0, .int .i64 0, .int .i64 0, .int .i64 0, .slice none 0 0, .int .i64 0], .slice none 0 0], []⟩ 8 (by kernel_rfl) (by kernel_rfl) (by kernel_rfl) (by kernel_rfl)) ?_
  intro W base args ds gs before hval0 hW hcnd hsz0 _
  have hval : ∀ (j : Nat) t v, Try.f11.params[j]? = some t → args[j]? = some v → Value.okWide Try.prog W .any base t v := hval0
  have hW' := hW
  obtain ⟨p, q, hA0, hV, rfl, hfz, hnd⟩ := hW
  have hA : DataW.TrodAll enc Try.prog W 0 (fun _ => true) true Try.f11.params.toList args.toList ds p := hA0
  rw [Try.params11] at hA hval hsz0
  obtain ⟨v0, vs0, d0, ds0, p0, q0, hargs, rfl, rfl, h0, r0⟩ := trodAll_cons hA
  obtain ⟨v1, vs1, d1, ds1, p1, q1, rfl, rfl, rfl, h1, r1⟩ := trodAll_cons r0
  obtain ⟨rfl, rfl, rfl⟩ := trodAll_nil r1
  obtain rfl : args = #[v0, v1] := by cases args; simp_all
  obtain ⟨rfl, rfl⟩ := trodVars_none hV
  have hwt0 : ∀ n ∈ DataW.weights Try.prog 26 d0, n ≤ reachBytes := fun n hn => by simpa using List.all_eq_true.1 hsz0 n (DataW.weights_mem_each (j := 0) rfl rfl n hn)
  have hwt1 : ∀ n ∈ DataW.weights Try.prog 22 d1, n ≤ reachBytes := fun n hn => by simpa using List.all_eq_true.1 hsz0 n (DataW.weights_mem_each (j := 1) rfl rfl n hn)
  have k0 := h0
  have lt0 : ∀ x ∈ p0, x.block < W.heap.size := by obtain ⟨m, hm⟩ := k0; exact DataW.trod_lt m _ _ _ hm
  have k1 := h1
  have lt1 : ∀ x ∈ p1, x.block < W.heap.size := by obtain ⟨m, hm⟩ := k1; exact DataW.trod_lt m _ _ _ hm
  obtain ⟨a0, vl0, vt0, L0, T0, rfl, hL0, hLn0, hT0, hTn0⟩ := open_raw (hval 0 26 v0 rfl rfl) h0 hwt0
  obtain ⟨L1, hL1, hLn1⟩ := open_ints1 (hval 1 22 v1 rfl rfl) h1 hwt1
  clear hA0 hval0
  refine (walk_RasterChanged a0 vl0 vt0 L0 T0 v1 L1   W hL0 hLn0 hT0 hTn0 hL1 hLn1).mono fun e W' ⟨he, bel⟩ => ?_
  subst he
  exact ⟨_, rfl, _, _, _, [], _, [], hW', trodAll_mk1 (shut_bool Try.underlying4 _), (trodAll_cons_mk (Below.trod laidOut (by kernel_rfl) (of_decide_eq_true (by kernel_rfl)) k0 bel lt0) (trodAll_cons_mk (Below.trod laidOut (by kernel_rfl) (of_decide_eq_true (by kernel_rfl)) k1 bel lt1) trodAll_mk0)), rfl, bel.frame _, fun h => by cases h⟩
theorem over : Rows.rasterChangedRow.holds Try.pinned (OpenSpec.ofChange Rows.rasterChangedSpec) :=
  OpenClaim.holds_of_wide 11 Try.f11 rfl rfl rfl rfl rfl rfl rfl ⟨rfl, rfl, rfl, rfl, rfl⟩ rfl rfl rfl rfl rfl (by kernel_rfl) Try.func11 (by kernel_rfl)
    (of_decide_eq_true (by kernel_rfl)) (by unfold Func.isWrapper; first | (rw [if_pos (by decide +kernel)]; kernel_rfl) | (rw [if_neg (by decide +kernel)]; exact ⟨rfl, rfl⟩))
    (fun os started H enc _ => lifted os started H enc)
/-- THE STATEMENT: RasterChanged returns true for every input, and its arguments read as they did. -/
theorem proved : Rows.RasterChangedSaid := over
end rasterChanged
end Go.Proofs.Ytppccnjckiedlaa
