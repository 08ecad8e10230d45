import Derived.Test.YtamgpfblhlfhaaaGreatSk3
import Derived.Lib.AppendZeros
import Derived.Shelf.SlSortCmp.NoneTotal

/- The reference's combine, Combine. -/
namespace Go.Proofs.YtamgpfblhlfhaaaGreat
open Go.RowKit Go.Shelf Pl
set_option linter.unusedVariables false
set_option linter.unusedSimpArgs false
set_option maxRecDepth 20000
def opF (k : Int) : Int → Int → Int := if k = 0 then uOp else if k = 1 then cOp else mOp
theorem opF_z (k : Int) : OpZ (opF k) := by
 unfold opF
 split
 ·exact uOp_z
 ·split
  ·exact cOp_z
  ·exact mOp_z
theorem R_MulO (x y r : Int) (w : World) (e : mulI x y = r) : Calls Tryz.prog 74 #[.int .i64 x, .int .i64 y] w fun e w' => e = .returned (.int .i64 r) ∧ Below w.heap.size w w' := (R_Mul x y w).mono fun _ _ ⟨he, hw⟩ => ⟨by rw [he, e], hw ▸ Below.refl _ _⟩
set_option maxHeartbeats 2000000 in
theorem R_comb (k a b r : Int) (w : World) (hk : k = 0 ∨ k = 1 ∨ k = 2) (ha : 0 ≤ a ∧ a ≤ 255) (hb : 0 ≤ b ∧ b ≤ 255) (e : opF k a b = r) : Calls Tryz.prog 44 #[.int .i64 k, .int .i64 a, .int .i64 b] w fun e w' => e = .returned (.int .i64 r) ∧ Below w.heap.size w w' := by
 have B := Below.refl w.heap.size w
 rcases hk with rfl | rfl | rfl
 ·have e1 : r = max a b := e.symm
  rw [e1]
  clear e e1
  go_enter Tryz.func44, Tryz.ntmps44
  go_upto_region 3 with fail
  refine wp_region_lit ?_
  try simp only [gelS]
  refine wpList_chunk 2 (by kernel_rfl) ?_
  simp only [takS, Nat.reduceAdd]
  repeat (first | go_big_quiet_skip | (go_big_quiet_want; go_big_quiet_op; go_big_quiet_on))
  refine wpQuiet_nil ?_
  refine wpList_maxI (by first | rfl | simp [Region.wanted, yielded]) rfl rfl Tryz.underlying3 rfl rfl ?_
  simp only [putS]
  refine wpList_chunk 1 (by kernel_rfl) ?_
  simp only [takS, Nat.reduceAdd]
  repeat (first | go_big_quiet_skip | (go_big_quiet_want; go_big_quiet_op; go_big_quiet_on))
  refine wpQuiet_nil ?_
  refine wpList_nil ?_
  first | (go_ret) | (go_step; go_ret) | (go_step; go_step; go_ret) | (go_step; go_step; go_step; go_ret) | (go_step; go_step; go_step; go_step; go_ret) | (go_step; go_step; go_step; go_step; go_step; go_ret)
  exact ⟨rfl, B⟩
 ·have e1 : r = min a b := e.symm
  rw [e1]
  clear e e1
  go_enter Tryz.func44, Tryz.ntmps44
  go_upto_region 5 with fail
  refine wp_region_lit ?_
  try simp only [gelS]
  refine wpList_chunk 2 (by kernel_rfl) ?_
  simp only [takS, Nat.reduceAdd]
  repeat (first | go_big_quiet_skip | (go_big_quiet_want; go_big_quiet_op; go_big_quiet_on))
  refine wpQuiet_nil ?_
  refine wpList_minI (by first | rfl | simp [Region.wanted, yielded]) rfl rfl Tryz.underlying3 rfl rfl ?_
  simp only [putS]
  refine wpList_chunk 1 (by kernel_rfl) ?_
  simp only [takS, Nat.reduceAdd]
  repeat (first | go_big_quiet_skip | (go_big_quiet_want; go_big_quiet_op; go_big_quiet_on))
  refine wpQuiet_nil ?_
  refine wpList_nil ?_
  first | (go_ret) | (go_step; go_ret) | (go_step; go_step; go_ret) | (go_step; go_step; go_step; go_ret) | (go_step; go_step; go_step; go_step; go_ret) | (go_step; go_step; go_step; go_step; go_step; go_ret)
  exact ⟨rfl, B⟩
 ·have e1 : mulI a (255 - b) = r := e
  have HE := Lib.hid e1
  clear e e1
  go_enter Tryz.func44, Tryz.ntmps44
  go_upto_region 6 with fail
  refine wp_region_lit ?_
  try simp only [gelS]
  refine wpList_chunk 3 (by kernel_rfl) ?_
  simp only [takS, Nat.reduceAdd]
  repeat (first | go_big_quiet_skip | (go_big_quiet_want; go_big_quiet_op; go_big_quiet_on))
  refine wpQuiet_nil ?_
  refine wpList_callF (by first | rfl | simp [Region.wanted, yielded]) rfl (enters_of Tryz.func74 (by kernel_rfl) rfl) (by simp only [Act.eval, evlS]; rfl) ?_
  refine (R_MulO a (255 - b) r _ HE.out).mono ?_
  rintro e wn ⟨rfl, hbn⟩
  have hsz := B.size
  have hzn := hbn.size
  replace B := B.trans (hbn.mono B.size)
  refine ⟨_, rfl, ?_⟩
  simp only [putS]
  refine wpList_chunk 1 (by kernel_rfl) ?_
  simp only [takS, Nat.reduceAdd]
  repeat (first | go_big_quiet_skip | (go_big_quiet_want; go_big_quiet_op; go_big_quiet_on))
  refine wpQuiet_nil ?_
  refine wpList_nil ?_
  first | (go_ret) | (go_step; go_ret) | (go_step; go_step; go_ret) | (go_step; go_step; go_step; go_ret) | (go_step; go_step; go_step; go_step; go_ret) | (go_step; go_step; go_step; go_step; go_step; go_ret)
  exact ⟨rfl, B⟩
theorem alphaT {w : World} {b : Nat} {f : Nat → Px} (h : TileAt w b f) {i : Nat} (hi : i < 64) : w.cell? ⟨b, i * 4 + 3, none⟩ = some (.int .u8 (f i).a) := (h.cells hi).2.2.2
/-- An alpha stored. -/
theorem wpList_storeAl {ops : Array Oper} {rest : List Oper} {o : Oper} {a : Act} {w : World} {Q : Exit → Act → World → Prop} (hg : o.guard = none) (x y : Operand) (ho : o.op = .store 5 x y) (b j : Nat) (hx : a.eval x = .pointer (some ⟨b, j, none⟩)) (n : Int) (hy : a.eval y = .int .u8 n) {f : Nat → Px} (ht : TileAt w b f) (i : Nat) (hi : i < 64) (hj : j = i * 4 + 3)
  (h : ∀ w', TileAt w' b (upd f i ⟨(f i).r, (f i).g, (f i).b, n⟩) → Chg b w w' → w'.heap.size = w.heap.size → wpList Tryz.prog ops Q rest (a.put o.dst undef) w') : wpList Tryz.prog ops Q (o :: rest) a w := by
 subst hj
 have c0 : w.cell? ⟨b, i * 4 + 3, none⟩ = some (.int .u8 (f i).a) := alphaT ht hi
 have f0 := (cells_of_block ht).2 (i * 4 + 3)
 have e : TileAt (w.setCell ⟨b, i * 4 + 3, none⟩ (.int .u8 n)) b (upd f i ⟨(f i).r, (f i).g, (f i).b, n⟩) := by
  unfold TileAt
  have e1 : (tileC f).setIfInBounds (i * 4 + 3) (.int .u8 n) = tileC (upd f i ⟨(f i).r, (f i).g, (f i).b, n⟩) := by
   rw [← set_tileC f i ⟨(f i).r, (f i).g, (f i).b, n⟩ hi]
   have k0 : (tileC f).setIfInBounds (i * 4) (.int .u8 (f i).r) = tileC f := set_self (tileC_at f i 0 hi (by omega))
   have k1 : (tileC f).setIfInBounds (i * 4 + 1) (.int .u8 (f i).g) = tileC f := set_self (tileC_at f i 1 hi (by omega))
   have k2 : (tileC f).setIfInBounds (i * 4 + 2) (.int .u8 (f i).b) = tileC f := set_self (tileC_at f i 2 hi (by omega))
   simp only [k0, k1, k2]
  rw [← e1]
  exact heap_setCell_same _ _ _ _ _ _ ht
 refine wpList_storeAny hg x y ho _ ?_ (h _ e ((Chg.refl b w).setCell _) (by simp only [World.size_setCell]))
 rw [hx, hy]
 simp [go_sem, c0, f0]
/-- The tile so far. -/
def uK (op : Int → Int → Int) (la lb : List TA) (p : Psn) (j i : Nat) : Px := if i < j then uT op la lb p i else Px.zero
theorem uK_step (op : Int → Int → Int) (la lb : List TA) (p : Psn) {j : Nat} (hj : j < 64) {r : Int} (hr : op (tileL la p.1 p.2 j).a (tileL lb p.1 p.2 j).a = r) : upd (uK op la lb p j) j ⟨(uK op la lb p j j).r, (uK op la lb p j j).g, (uK op la lb p j j).b, r⟩ = uK op la lb p (j + 1) := by
 funext i
 have h0 : uK op la lb p j j = Px.zero := if_neg (by omega)
 unfold upd
 by_cases hi : i = j
 ·rw [if_pos hi, h0, hi]
  unfold uK uT
  rw [if_pos (by omega), if_pos hj, hr]
  rfl
 ·rw [if_neg hi]
  unfold uK
  by_cases h1 : i < j
  ·rw [if_pos h1, if_pos (by omega)]
  ·rw [if_neg h1, if_neg (by omega)]
theorem uK_all (op : Int → Int → Int) (la lb : List TA) (p : Psn) : uK op la lb p 64 = uT op la lb p := by
 funext i
 unfold uK
 by_cases h : i < 64
 ·rw [if_pos h]
 ·rw [if_neg h]
  unfold uT
  rw [if_neg h]
theorem eqT_zT {op : Int → Int → Int} {la lb : List TA} {p : Psn} : eqT (uT op la lb p) zT = zeroB (uT op la lb p) := by
 rw [Bool.eq_iff_iff, zeroB_iff]
 unfold eqT
 rw [decide_eq_true_iff]
 constructor
 ·intro h i hi
  rw [h i (List.mem_range.2 hi)]
  rfl
 ·intro h i hi
  have hi := List.mem_range.1 hi
  have h := h i hi
  unfold uT at h ⊢
  rw [if_pos hi] at h ⊢
  simp only at h
  rw [h]
  rfl
theorem alphaE {w : World} {b : Nat} {f : Nat → Px} (h : TileAt w b f) {i : Nat} (hi : i < 64) {x : Int} (hx : (f i).a = x) : w.cell? ⟨b, i * 4 + 3, none⟩ = some (.int .u8 x) := hx ▸ alphaT h hi
def mB (l : List TA) (p : Psn) (i : Nat) : Bool := decide (i < l.length ∧ pT (aT l i) = p)
theorem mNx_mB (l : List TA) (p : Psn) (i : Nat) : mNx l p i = if mB l p i = true then i + 1 else i := by
 unfold mNx mB
 by_cases h : i < l.length ∧ pT (aT l i) = p
 ·rw [if_pos h, decide_eq_true h, if_pos rfl]
 ·rw [if_neg h, decide_eq_false h, if_neg (by decide)]
theorem mB_no {l : List TA} {p : Psn} {i : Nat} (h : ¬ i < l.length) : mB l p i = false := decide_eq_false (fun k => h k.1)
theorem mB_eq {l : List TA} {p : Psn} {i : Nat} (h : i < l.length) {e : TA} (he : aT l i = e) : mB l p i = eqB e.x e.y p.1 p.2 := by
 unfold mB eqB
 rw [he, Bool.eq_iff_iff, decide_eq_true_iff, decide_eq_true_iff]
 unfold pT
 constructor
 ·intro k
  rw [← k.2]
  exact ⟨rfl, rfl⟩
 ·intro k
  exact ⟨h, Prod.ext k.1 k.2⟩
theorem uK_zero (op : Int → Int → Int) (la lb : List TA) (p : Psn) : uK op la lb p 0 = fun _ => Px.zero := by
 funext i
 unfold uK
 rw [if_neg (by omega)]
def okB (op : Int → Int → Int) (la lb M : List TA) (p : Psn) : Bool := !zeroB (uT op la lb p) && decide (M.length < 1024)
theorem combS_okB (op : Int → Int → Int) (la lb M : List TA) (p : Psn) : combS op la lb M p = if okB op la lb M p = true then M ++ [⟨p.1, p.2, uT op la lb p⟩] else M := by
 unfold combS okB
 by_cases h : zeroB (uT op la lb p) = false ∧ M.length < 1024
 ·rw [if_pos h, h.1, decide_eq_true h.2]
  rfl
 ·rw [if_neg h, if_neg]
  intro k
  rw [Bool.and_eq_true, Bool.not_eq_true', decide_eq_true_iff] at k
  exact h k
section
variable {ops : Array Oper} {rest : List Oper} {o : Oper} {a : Act} {w : World} {Q : Exit → Act → World → Prop}
/-- A tile appended to a row of the call's own: all other blocks stand. -/
theorem wpList_appendTG (hg : o.guard = none) (s x : Operand) (ho : o.op = .call { callee := .builtin .append, args := #[s, x], argTypes := #[32, 32] }) (v : Value) (hs : a.eval s = v) (b : Nat) (hx : a.eval x = .slice (some ⟨b, 0, none⟩) 1 1) {B : Nat} {ls : List TA} {e : TA} (hown : OwnT B v ls w) (hu : AtB 72 w b (taC e)) (hlen : ls.length + 1 ≤ 100000) (hB : B ≤ w.heap.size)
  (h : ∀ v' w', OwnT B v' (ls ++ [e]) w' → Below B w w' → (∀ k, k < w.heap.size → v.ownBlock ≠ some k → w'.heap[k]? = w.heap[k]?) → wpList Tryz.prog ops Q rest (a.put o.dst v') w') : wpList Tryz.prog ops Q (o :: rest) a w := by
 obtain ⟨i, hi⟩ : ∃ i, Tryz.prog.info? 72 = some i := by
  cases h : Tryz.prog.info? 72 with
  | some i => exact ⟨i, rfl⟩
  | none => have e := ta_info; rw [h] at e; cases e
 have e1 := ta_info
 rw [hi] at e1
 have e1' : i.size = 258 ∧ i.bytes = 272 := by simpa using e1
 have hz := ta_zero
 rw [hi] at hz
 have hu' := RS.one hu
 obtain ⟨g, of, ha, sc⟩ := hu'.at (by simp)
 injection ha with ha
 injection ha with h1 h2
 subst h1
 subst h2
 refine wpList_append_own (P := Tryz.prog) w hg s x 32 ho B 72 i _ 258 272 Tryz.underlying32 hi hz e1'.1 e1'.2 (by simp [Value.cells]) (by omega) v ls.length (rowC ls) hs hown ⟨b, 0, none⟩ 1 1 (rowC [e]) hx (by rw [rowC_length]; rfl) ?_ (rowC_oneCell [e]) (by unfold maxLen; omega) (by omega) hB ?_
 ·intro j u hu
  have ea : (⟨b, 0, none⟩ : Addr).add j = ⟨b, 0 + j, none⟩ := by unfold Addr.add; split <;> simp_all
  rw [ea]
  exact sc.row j u hu
 ·intro v' w' h1 h2 h3
  have hlt := World.ownsRow.lt hown
  refine h v' w' ?_ ⟨h2.os, h2.tape, h2.output, h2.size, fun k hk => h2.block k (by omega) (fun e => by have := hlt k e.symm; omega)⟩ fun k hk hn => h2.block k hk (fun e => hn e.symm)
  unfold OwnT
  rw [rowC_append, List.length_append]
  exact h1
end
theorem left_true {la lb : List TA} {i k : Nat} (h : leftB la lb i k = true) (hne : i < la.length ∨ k < lb.length) : i < la.length ∧ mPos la lb i k = pT (aT la i) := by
 refine ⟨?_, by unfold mPos; rw [if_pos h]⟩
 unfold leftB at h
 rw [Bool.or_eq_true, Bool.and_eq_true, decide_eq_true_iff, decide_eq_true_iff] at h
 omega
theorem left_false {la lb : List TA} {i k : Nat} (h : leftB la lb i k = false) : k < lb.length ∧ mPos la lb i k = pT (aT lb k) := by
 refine ⟨?_, by unfold mPos; rw [h]; rfl⟩
 unfold leftB at h
 rw [Bool.or_eq_false_iff, decide_eq_false_iff_not] at h
 omega
theorem left_some {la lb : List TA} {i k : Nat} (h : ¬ (k < lb.length ∧ i < la.length)) : leftB la lb i k = decide (lb.length ≤ k) := by
 unfold leftB
 by_cases h1 : lb.length ≤ k
 ·rw [decide_eq_true h1]; rfl
 ·rw [decide_eq_false h1, decide_eq_false (show ¬ i < la.length by omega)]; rfl
theorem left_both {la lb : List TA} {i k : Nat} (h1 : k < lb.length) (h2 : i < la.length) {e d : TA} (he : aT la i = e) (hd : aT lb k = d) : leftB la lb i k = decide (e.y < d.y ∨ (e.y = d.y ∧ e.x ≤ d.x)) := by
 unfold leftB leP
 rw [decide_eq_false (show ¬ lb.length ≤ k by omega), decide_eq_true h2, he, hd]
 rfl
theorem neq_z {op : Int → Int → Int} {la lb : List TA} {p : Psn} {b : Bool} (h : zeroB (uT op la lb p) = b) (w : World) : (binOp .neq 70 (Tile.v (uT op la lb p)) (Tile.v fun _ => Px.zero)).run Tryz.prog w = .ok (.bool (!b)) w := by
 rw [neq_tile, ← h, ← eqT_zT]
 rfl
set_option maxHeartbeats 8000000 in
theorem R_Combine (op : Int) (va vb : Value) (la lb : List TA) (w : World) (hop : op = 0 ∨ op = 1 ∨ op = 2) (ra : RS va la w) (rb : RS vb lb w) (ta : TokL la) (tb : TokL lb) (hva : validL la = true) (hvb : validL lb = true) : Calls Tryz.prog 14 #[.int .i64 op, .agg #[va], .agg #[vb]] w fun e w' => ∃ a c, e = .returned (.agg #[.slice a (combL (opF op) la lb).length c]) ∧ RS (.slice a (combL (opF op) la lb).length c) (combL (opF op) la lb) w' ∧ Below w.heap.size w w' := by
 have B := Below.refl w.heap.size w
 obtain ⟨aa, ca, rfl, hca⟩ := ra.len
 obtain ⟨ab, cb, rfl, hcb⟩ := rb.len
 have HA := Lib.hid ra
 have HB := Lib.hid rb
 have HTA := Lib.hid ta
 have HTB := Lib.hid tb
 have HVA := Lib.hid hva
 have HVB := Lib.hid hvb
 have HSA := Lib.hid (validL_srt hva)
 have HSB := Lib.hid (validL_srt hvb)
 have HOP := Lib.hid hop
 have la1 := (validL_iff.1 hva).1
 have lb1 := (validL_iff.1 hvb).1
 have HNA := Lib.hid (len_maxLen (show la.length ≤ 2000 by omega))
 have HNB := Lib.hid (len_maxLen (show lb.length ≤ 2000 by omega))
 clear ra rb ta tb hva hvb hop
 go_enter Tryz.func14, Tryz.ntmps14
 go_upto_region 0 with fail
 refine wp_region_lit ?_
 try simp only [gelS]
 (refine wpList_boxB (t := 34) rfl _ rfl _ rfl ?_; intro b_b4 wn hle hge ht hbn hzn; have hsz := B.size; replace B := B.trans (hbn.mono (by omega)); have hln := Nat.lt_of_lt_of_eq (Nat.lt_succ_self _) hzn.symm; clear hzn; have b4 := ht; clear ht; simp only [putS])
 (refine wpList_boxB (t := 34) rfl _ rfl _ rfl ?_; intro b_b5 wn hle hge ht hbn hzn; have hsz := B.size; replace B := B.trans (hbn.mono (by omega)); have hln := Nat.lt_of_lt_of_eq (Nat.lt_succ_self _) hzn.symm; clear hzn; (try have hlt := b4.lt); (try replace b4 := b4.below (hbn.mono hle)); have b5 := ht; clear ht; simp only [putS])
 (refine wpList_allocBk (t := 34) rfl _ (run_alloc_R _ _ rfl) ?_; intro b_r6 wn hle hge ht hbn hzn; have hsz := B.size; replace B := B.trans (hbn.mono (by omega)); have hln := Nat.lt_of_lt_of_eq (Nat.lt_succ_self _) hzn.symm; clear hzn; (try have hlt := b4.lt); (try replace b4 := b4.below (hbn.mono hle)); (try have hlt := b5.lt); (try replace b5 := b5.below (hbn.mono hle)); have r6 := ht; clear ht; simp only [putS])
 refine wpList_nil ?_
 have k1 : w.heap.size ≤ b_b4 := by omega
 have k2 : b_b4 < b_b5 := by omega
 have k3 : b_b5 < b_r6 := by omega
 go_upto_region 1 with fail
 refine wp_region_lit ?_
 try simp only [gelS]
 refine wpList_chunk 1 (by kernel_rfl) ?_
 simp only [takS, Nat.reduceAdd]
 repeat (first | go_big_quiet_skip | (go_big_quiet_want; first | (refine quiet_loadAny (t := 34) rfl _ _ _ rfl (fun w hw => run_load_B (ov_B b4 w hw) Tryz.isAgg34 (by kernel_rfl)) (by rfl) ?_; simp only [putS]; go_big_quiet_on) | (go_big_quiet_op; go_big_quiet_on)))
 refine wpQuiet_nil ?_
 refine wpList_callF (by first | rfl | simp [Region.wanted, yielded]) rfl (enters_of Tryz.func40 (by kernel_rfl) rfl) (by simp only [Act.eval, evlS]; rfl) ?_
 refine (R_ofV _ la _ (HA.out.below B) HTA.out HNA.out HVA.out).mono ?_
 rintro e wn ⟨rfl, hbn⟩
 have hsz := B.size
 have hzn := hbn.size
 replace B := B.trans (hbn.mono B.size)
 (try replace b4 := b4.below hbn)
 (try replace b5 := b5.below hbn)
 (try replace r6 := r6.below hbn)
 refine ⟨_, rfl, ?_⟩
 simp only [putS]
 (refine wpList_storeB (t := 34) rfl _ _ rfl _ rfl _ rfl b4 (by kernel_rfl) rfl (by simp [Value.oneCell']) ?_; clear b4; intro wn ht hcn hzn; have hsz := B.size; replace hzn := Nat.le_of_eq hzn.symm; replace B := Chg.below B hcn (by omega) B.size; (try replace b5 := b5.of_eq (hcn.block _ b5.lt (by omega))); (try replace r6 := r6.of_eq (hcn.block _ r6.lt (by omega))); have b4 := ht; clear ht; simp only [putS])
 refine wpList_nil ?_
 go_upto_region 2 with fail
 refine wp_region_lit ?_
 try simp only [gelS]
 refine wpList_chunk 1 (by kernel_rfl) ?_
 simp only [takS, Nat.reduceAdd]
 repeat (first | go_big_quiet_skip | (go_big_quiet_want; first | (refine quiet_loadAny (t := 34) rfl _ _ _ rfl (fun w hw => run_load_B (ov_B b5 w hw) Tryz.isAgg34 (by kernel_rfl)) (by rfl) ?_; simp only [putS]; go_big_quiet_on) | (go_big_quiet_op; go_big_quiet_on)))
 refine wpQuiet_nil ?_
 refine wpList_callF (by first | rfl | simp [Region.wanted, yielded]) rfl (enters_of Tryz.func40 (by kernel_rfl) rfl) (by simp only [Act.eval, evlS]; rfl) ?_
 refine (R_ofV _ lb _ (HB.out.below B) HTB.out HNB.out HVB.out).mono ?_
 rintro e wn ⟨rfl, hbn⟩
 have hsz := B.size
 have hzn := hbn.size
 replace B := B.trans (hbn.mono B.size)
 (try replace b4 := b4.below hbn)
 (try replace b5 := b5.below hbn)
 (try replace r6 := r6.below hbn)
 refine ⟨_, rfl, ?_⟩
 simp only [putS]
 (refine wpList_storeB (t := 34) rfl _ _ rfl _ rfl _ rfl b5 (by kernel_rfl) rfl (by simp [Value.oneCell']) ?_; clear b5; intro wn ht hcn hzn; have hsz := B.size; replace hzn := Nat.le_of_eq hzn.symm; replace B := Chg.below B hcn (by omega) B.size; (try replace b4 := b4.of_eq (hcn.block _ b4.lt (by omega))); (try replace r6 := r6.of_eq (hcn.block _ r6.lt (by omega))); have b5 := ht; clear ht; simp only [putS])
 refine wpList_nil ?_
 go_upto_region 3 with fail
 refine wp_region_lit ?_
 try simp only [gelS]
 (refine wpList_allocBk (t := 34) rfl _ (run_alloc_R _ _ rfl) ?_; intro b_r7 wn hle hge ht hbn hzn; have hsz := B.size; replace B := B.trans (hbn.mono (by omega)); have hln := Nat.lt_of_lt_of_eq (Nat.lt_succ_self _) hzn.symm; clear hzn; (try have hlt := b4.lt); (try replace b4 := b4.below (hbn.mono hle)); (try have hlt := b5.lt); (try replace b5 := b5.below (hbn.mono hle)); (try have hlt := r6.lt); (try replace r6 := r6.below (hbn.mono hle)); have r7 := ht; clear ht; simp only [putS])
 refine wpList_nil ?_
 have k4 : b_r6 < b_r7 := by have := r6.lt; omega
 have qr7 := r7.lt
 obtain ⟨b0, hb0⟩ : ∃ n, n = wn.heap.size := ⟨_, rfl⟩
 have k5 : b_r7 < b0 := by omega
 have hwb : b0 ≤ wn.heap.size := by omega
 have od := OwnT.nil b0 wn
 clear hb0 qr7
 go_upto_region 4 with fail
 refine wp_region_lit ?_
 try simp only [gelS]
 refine wpList_chunk 1 (by kernel_rfl) ?_
 simp only [takS, Nat.reduceAdd]
 repeat (first | go_big_quiet_skip | (go_big_quiet_want; go_big_quiet_op; go_big_quiet_on))
 refine wpQuiet_nil ?_
 refine wpList_nil ?_
 go_upto_region 5 with fail
 refine wp_region_lit ?_
 try simp only [gelS]
 refine wpList_chunk 1 (by kernel_rfl) ?_
 simp only [takS, Nat.reduceAdd]
 repeat (first | go_big_quiet_skip | (go_big_quiet_want; go_big_quiet_op; go_big_quiet_on))
 refine wpQuiet_nil ?_
 refine wpList_nil ?_
 go_wp2
 go_loopw [8, 9, 10, 11, 12, 13, 14, 15, 16, 17] (fun iv kv _ _ _ _ _ _ _ _ wr => ∃ (i k : Nat) (ps : List Psn) (M : List TA) (ao : Option Addr) (co : Nat), i ≤ la.length ∧ k ≤ lb.length ∧ iv = .int .i64 i ∧ kv = .int .i64 k ∧ Hid (MG la lb i k ps) ∧ Hid (combK (opF op) la lb ps = M) ∧ Below w.heap.size w wr ∧ b0 ≤ wr.heap.size ∧ AtB 34 wr b_b4 #[.slice aa la.length ca] ∧ AtB 34 wr b_b5 #[.slice ab lb.length cb] ∧ AtB 34 wr b_r6 #[.slice none 0 0] ∧ AtB 34 wr b_r7 #[.slice ao M.length co] ∧ OwnT b0 (.slice ao M.length co) M wr) (fun iv kv _ _ _ _ _ _ _ _ _ => (la.length + lb.length - intOf iv - intOf kv).toNat)
 case atStart => exact ⟨0, 0, [], [], none, 0, by omega, by omega, rfl, rfl, Lib.hid (mg_start la lb), Lib.hid rfl, B, hwb, b4, b5, r6, r7, od⟩
 case round =>
  clear B  hwb  b4  b5  r6  r7  od
  obtain ⟨i, k, ps, M, ao, co, hi, hk, rfl, rfl, HMG, HM, B, hwb, b4, b5, r6, r7, od⟩ := hrel
  have hM := (combK_len (opF op) la lb ps).1
  rw [HM.out] at hM
  obtain ⟨nr, hnr⟩ : ∃ n, n = wr.heap.size := ⟨_, rfl⟩
  have k6 : b0 ≤ nr := by omega
  have HOB : Hid (∀ kk, (Value.slice ao M.length co).ownBlock = some kk → kk < nr) := Lib.hid (hnr ▸ od.ownlt)
  replace hwb : nr ≤ wr.heap.size := Nat.le_of_eq hnr
  clear hnr
  go_upto_region 6 with fail
  go_cut [33] from 22 to 32 (fun s wr => s = .bool (decide (i < la.length) || decide (k < lb.length)) ∧ Below w.heap.size w wr ∧ nr ≤ wr.heap.size ∧ AtB 34 wr b_b4 #[.slice aa la.length ca] ∧ AtB 34 wr b_b5 #[.slice ab lb.length cb] ∧ AtB 34 wr b_r6 #[.slice none 0 0] ∧ AtB 34 wr b_r7 #[.slice ao M.length co] ∧ OwnT b0 (.slice ao M.length co) M wr)
  case first =>
   by_cases g1 : i < la.length
   ·have d1 : decide ((i : Int) < (la.length : Int)) = true := decide_eq_true (by omega)
    have d2 : decide (i < la.length) = true := decide_eq_true g1
    refine wp_region_lit ?_
    try simp only [gelS]
    refine wpList_chunk 3 (by kernel_rfl) ?_
    simp only [takS, Nat.reduceAdd]
    repeat (first | go_big_quiet_skip | (go_big_quiet_want; first | (refine quiet_loadAny (t := 32) rfl _ _ _ rfl (fun w hw => run_load_sl (ov_B b4 w hw).cell0) (by rfl) ?_; simp only [putS]; go_big_quiet_on) | (refine quiet_loadAny (t := 32) rfl _ _ _ rfl (fun w hw => run_load_sl (ov_B b5 w hw).cell0) (by rfl) ?_; simp only [putS]; go_big_quiet_on) | (go_big_quiet_op; go_big_quiet_on)))
    refine wpQuiet_nil ?_
    refine wpList_lenS (by first | rfl | simp [Region.wanted, yielded]) rfl Tryz.underlying32 rfl ?_
    simp only [putS]
    refine wpList_chunk 5 (by kernel_rfl) ?_
    simp only [takS, Nat.reduceAdd]
    repeat (first | go_big_quiet_skip | (go_big_quiet_want; first | (refine quiet_loadAny (t := 32) rfl _ _ _ rfl (fun w hw => run_load_sl (ov_B b4 w hw).cell0) (by rfl) ?_; simp only [putS]; go_big_quiet_on) | (refine quiet_loadAny (t := 32) rfl _ _ _ rfl (fun w hw => run_load_sl (ov_B b5 w hw).cell0) (by rfl) ?_; simp only [putS]; go_big_quiet_on) | (go_big_quiet_op; go_big_quiet_on)))
    refine wpQuiet_nil ?_
    refine wpList_skip ?hs10_9 ?_
    case hs10_9 => kernel_rfl
    simp only [putS]
    refine wpList_chunk 2 (by kernel_rfl) ?_
    simp only [takS, Nat.reduceAdd]
    repeat (first | go_big_quiet_skip | (go_big_quiet_want; go_big_quiet_op; go_big_quiet_on))
    refine wpQuiet_nil ?_
    refine wpList_nil ?_
    go_wp2
    go_meet
    exact ⟨by rw [decide_eq_true g1]; rfl, B, by omega, b4, b5, r6, r7, od⟩
   ·have d1 : decide ((i : Int) < (la.length : Int)) = false := decide_eq_false (by omega)
    have d2 : decide (i < la.length) = false := decide_eq_false g1
    have G1 := Lib.hid g1
    clear g1
    refine wp_region_lit ?_
    try simp only [gelS]
    refine wpList_chunk 3 (by kernel_rfl) ?_
    simp only [takS, Nat.reduceAdd]
    repeat (first | go_big_quiet_skip | (go_big_quiet_want; first | (refine quiet_loadAny (t := 32) rfl _ _ _ rfl (fun w hw => run_load_sl (ov_B b4 w hw).cell0) (by rfl) ?_; simp only [putS]; go_big_quiet_on) | (refine quiet_loadAny (t := 32) rfl _ _ _ rfl (fun w hw => run_load_sl (ov_B b5 w hw).cell0) (by rfl) ?_; simp only [putS]; go_big_quiet_on) | (go_big_quiet_op; go_big_quiet_on)))
    refine wpQuiet_nil ?_
    refine wpList_lenS (by first | rfl | simp [Region.wanted, yielded]) rfl Tryz.underlying32 rfl ?_
    simp only [putS]
    refine wpList_chunk 5 (by kernel_rfl) ?_
    simp only [takS, Nat.reduceAdd]
    repeat (first | go_big_quiet_skip | (go_big_quiet_want; first | (refine quiet_loadAny (t := 32) rfl _ _ _ rfl (fun w hw => run_load_sl (ov_B b4 w hw).cell0) (by rfl) ?_; simp only [putS]; go_big_quiet_on) | (refine quiet_loadAny (t := 32) rfl _ _ _ rfl (fun w hw => run_load_sl (ov_B b5 w hw).cell0) (by rfl) ?_; simp only [putS]; go_big_quiet_on) | (go_big_quiet_op; go_big_quiet_on)))
    refine wpQuiet_nil ?_
    refine wpList_lenS (by first | rfl | simp [Region.wanted, yielded]) rfl Tryz.underlying32 rfl ?_
    simp only [putS]
    refine wpList_chunk 2 (by kernel_rfl) ?_
    simp only [takS, Nat.reduceAdd]
    repeat (first | go_big_quiet_skip | (go_big_quiet_want; go_big_quiet_op; go_big_quiet_on))
    refine wpQuiet_nil ?_
    refine wpList_nil ?_
    go_wp2
    go_meet
    exact ⟨by rw [decide_eq_false G1.out]; simp [Int.ofNat_lt], B, by omega, b4, b5, r6, r7, od⟩
  case rest =>
   clear B  hwb  b4  b5  r6  r7  od
   obtain ⟨hs33, B, hwb, b4, b5, r6, r7, od⟩ := hcut
   by_cases hne : i < la.length ∨ k < lb.length
   ·have hs : (decide (i < la.length) || decide (k < lb.length)) = true := by
     rw [Bool.or_eq_true, decide_eq_true_iff, decide_eq_true_iff]
     exact hne
    rw [hs] at hs33
    subst hs33
    clear hs
    obtain ⟨lf, hlf⟩ : ∃ b, leftB la lb i k = b := ⟨_, rfl⟩
    obtain ⟨p, hp⟩ : ∃ p, mPos la lb i k = p := ⟨_, rfl⟩
    have hst := mg_step HSA.out HSB.out HMG.out hne
    rw [hp] at hst
    have HMS := Lib.hid hst.1
    have HLT := Lib.hid hst.2.1
    have hck := combK_snoc (opF op) la lb ps p
    rw [HM.out, combS_okB] at hck
    have HCK := Lib.hid hck
    have HP := Lib.hid hp
    have HLF := Lib.hid hlf
    have HNE := Lib.hid hne
    clear hst hck hp hlf hne
    go_upto_region 7 with fail
    refine wp_region_lit ?_
    try simp only [gelS]
    refine wpList_chunk 1 (by kernel_rfl) ?_
    simp only [takS, Nat.reduceAdd]
    repeat (first | go_big_quiet_skip | (go_big_quiet_want; go_big_quiet_op; go_big_quiet_on))
    refine wpQuiet_nil ?_
    (refine wpList_allocBk (t := 68) rfl _ (run_alloc_Ps _ _ rfl) ?_; intro b_p10 wn hle hge ht hbn hzn; have hsz := B.size; replace B := B.trans (hbn.mono (by omega)); have hln := Nat.lt_of_lt_of_eq (Nat.lt_succ_self _) hzn.symm; clear hzn; (try have hlt := b4.lt); (try replace b4 := b4.below (hbn.mono hle)); (try have hlt := b5.lt); (try replace b5 := b5.below (hbn.mono hle)); (try have hlt := r6.lt); (try replace r6 := r6.below (hbn.mono hle)); (try have hlt := r7.lt); (try replace r7 := r7.below (hbn.mono hle)); (try have hlt := od.lt); (try replace od := od.below (hbn.mono hle)); have p10 := ht; clear ht; simp only [putS])
    (refine wpList_storeB (t := 68) rfl _ _ rfl _ rfl _ rfl p10 (by kernel_rfl) rfl (by simp [Value.oneCell']) ?_; clear p10; intro wn ht hcn hzn; (try replace od := od.chgN hcn (fun kk hkk => Nat.ne_of_lt (Nat.lt_of_lt_of_le (HOB.out kk hkk) (by omega)))); have hsz := B.size; replace hzn := Nat.le_of_eq hzn.symm; replace B := Chg.below B hcn (by omega) B.size; (try replace b4 := b4.of_eq (hcn.block _ b4.lt (by omega))); (try replace b5 := b5.of_eq (hcn.block _ b5.lt (by omega))); (try replace r6 := r6.of_eq (hcn.block _ r6.lt (by omega))); (try replace r7 := r7.of_eq (hcn.block _ r7.lt (by omega))); (try replace od := od.of_eq (hcn.block _ od.lt (by omega))); have p10 := ht; clear ht; simp only [putS])
    refine wpList_nil ?_
    have k7 : nr ≤ b_p10 := by omega
    replace p10 : AtB 68 _ b_p10 #[.int .i64 0, .int .i64 0] := p10
    go_upto_region 8 with fail
    refine wp_region_lit ?_
    try simp only [gelS]
    refine wpList_chunk 3 (by kernel_rfl) ?_
    simp only [takS, Nat.reduceAdd]
    repeat (first | go_big_quiet_skip | (go_big_quiet_want; first | (refine quiet_loadAny (t := 32) rfl _ _ _ rfl (fun w hw => run_load_sl (ov_B b5 w hw).cell0) (by rfl) ?_; simp only [putS]; go_big_quiet_on) | (go_big_quiet_op; go_big_quiet_on)))
    refine wpQuiet_nil ?_
    refine wpList_lenS (by first | rfl | simp [Region.wanted, yielded]) rfl Tryz.underlying32 rfl ?_
    simp only [putS]
    refine wpList_chunk 2 (by kernel_rfl) ?_
    simp only [takS, Nat.reduceAdd]
    repeat (first | go_big_quiet_skip | (go_big_quiet_want; go_big_quiet_op; go_big_quiet_on))
    refine wpQuiet_nil ?_
    refine wpList_nil ?_
    go_upto_region 9 with fail
    go_cut [11, 48] from 40 to 47 (fun s11 s48 wr => s11 = .bool (decide (lb.length ≤ k)) ∧ s48 = .bool (decide (k < lb.length ∧ i < la.length)) ∧ AtB 68 wr b_p10 #[.int .i64 0, .int .i64 0] ∧ Below w.heap.size w wr ∧ nr ≤ wr.heap.size ∧ AtB 34 wr b_b4 #[.slice aa la.length ca] ∧ AtB 34 wr b_b5 #[.slice ab lb.length cb] ∧ AtB 34 wr b_r6 #[.slice none 0 0] ∧ AtB 34 wr b_r7 #[.slice ao M.length co] ∧ OwnT b0 (.slice ao M.length co) M wr)
    case first =>
     by_cases hkb : k < lb.length
     ·have hk2 : ¬ lb.length ≤ k := by omega
      have d1 : decide (lb.length ≤ k) = false := decide_eq_false hk2
      have d2 : decide ((lb.length : Int) ≤ (k : Int)) = false := decide_eq_false (by omega)
      have hdd : decide (k < lb.length ∧ i < la.length) = decide (i < la.length) := by
       rw [Bool.eq_iff_iff, decide_eq_true_iff, decide_eq_true_iff]
       exact ⟨fun h => h.2, fun h => ⟨hkb, h⟩⟩
      have HDD := Lib.hid hdd
      have D1 := Lib.hid d1
      clear hdd hk2 hkb
      refine wp_region_lit ?_
      try simp only [gelS]
      refine wpList_chunk 6 (by kernel_rfl) ?_
      simp only [takS, Nat.reduceAdd]
      repeat (first | go_big_quiet_skip | (go_big_quiet_want; first | (refine quiet_loadAny (t := 32) rfl _ _ _ rfl (fun w hw => run_load_sl (ov_B b4 w hw).cell0) (by rfl) ?_; simp only [putS]; go_big_quiet_on) | (go_big_quiet_op; go_big_quiet_on)))
      refine wpQuiet_nil ?_
      refine wpList_lenS (by first | rfl | simp [Region.wanted, yielded]) rfl Tryz.underlying32 rfl ?_
      simp only [putS]
      refine wpList_chunk 2 (by kernel_rfl) ?_
      simp only [takS, Nat.reduceAdd]
      repeat (first | go_big_quiet_skip | (go_big_quiet_want; go_big_quiet_op; go_big_quiet_on))
      refine wpQuiet_nil ?_
      refine wpList_nil ?_
      go_wp2
      go_meet
      exact ⟨by rw [D1.out], by rw [HDD.out], p10, B, by omega, b4, b5, r6, r7, od⟩
     ·have hk2 : lb.length ≤ k := by omega
      have d1 : decide (lb.length ≤ k) = true := decide_eq_true hk2
      have d2 : decide ((lb.length : Int) ≤ (k : Int)) = true := decide_eq_true (by omega)
      have HDD := Lib.hid (show decide (k < lb.length ∧ i < la.length) = false from decide_eq_false (fun h => hkb h.1))
      have D1 := Lib.hid d1
      clear hk2 hkb
      refine wp_region_lit ?_
      try simp only [gelS]
      refine wpList_chunk 6 (by kernel_rfl) ?_
      simp only [takS, Nat.reduceAdd]
      repeat (first | go_big_quiet_skip | (go_big_quiet_want; first | (refine quiet_loadAny (t := 32) rfl _ _ _ rfl (fun w hw => run_load_sl (ov_B b4 w hw).cell0) (by rfl) ?_; simp only [putS]; go_big_quiet_on) | (go_big_quiet_op; go_big_quiet_on)))
      refine wpQuiet_nil ?_
      refine wpList_skip ?hs15_6 ?_
      case hs15_6 => kernel_rfl
      simp only [putS]
      refine wpList_chunk 2 (by kernel_rfl) ?_
      simp only [takS, Nat.reduceAdd]
      repeat (first | go_big_quiet_skip | (go_big_quiet_want; go_big_quiet_op; go_big_quiet_on))
      refine wpQuiet_nil ?_
      refine wpList_nil ?_
      go_wp2
      go_meet
      exact ⟨by rw [D1.out], by rw [HDD.out], p10, B, by omega, b4, b5, r6, r7, od⟩
    case rest =>
     clear B  hwb  b4  b5  r6  r7  od p10
     obtain ⟨hs11, hs48, p10, B, hwb, b4, b5, r6, r7, od⟩ := hcut
     have HS11 := Lib.hid hs11
     have HS48 := Lib.hid hs48
     clear hs11 hs48
     go_upto_if 48 with fail
     go_cut [11, 12, 13] from 49 to 79 (fun s11 _ _ wr => s11 = .bool lf ∧ AtB 68 wr b_p10 #[.int .i64 0, .int .i64 0] ∧ Below w.heap.size w wr ∧ nr ≤ wr.heap.size ∧ AtB 34 wr b_b4 #[.slice aa la.length ca] ∧ AtB 34 wr b_b5 #[.slice ab lb.length cb] ∧ AtB 34 wr b_r6 #[.slice none 0 0] ∧ AtB 34 wr b_r7 #[.slice ao M.length co] ∧ OwnT b0 (.slice ao M.length co) M wr)
     case first =>
      by_cases hb : k < lb.length ∧ i < la.length
      ·obtain ⟨hkb, hia⟩ := hb
       have e48 := HS48.out
       rw [decide_eq_true (show k < lb.length ∧ i < la.length from ⟨hkb, hia⟩)] at e48
       subst e48
       obtain ⟨ga, oa, rfl, ra0⟩ := HA.out.at (by omega)
       obtain ⟨gb, ob, rfl, rb0⟩ := HB.out.at (by omega)
       have hga := ra0.lt
       have hgb := rb0.lt
       have rca := ra0.of_eq (B.block _ hga)
       have rcb := rb0.of_eq (B.block _ hgb)
       clear ra0 rb0
       obtain ⟨e, he⟩ : ∃ e, aT la i = e := ⟨_, rfl⟩
       obtain ⟨d, hd⟩ : ∃ d, aT lb k = d := ⟨_, rfl⟩
       have hlb := left_both hkb hia he hd
       rw [HLF.out] at hlb
       have HLB := Lib.hid hlb
       clear hlb
       go_upto_region 10 with fail
       refine wp_region_lit ?_
       try simp only [gelS]
       refine wpList_chunk 6 (by kernel_rfl) ?_
       simp only [takS, Nat.reduceAdd]
       repeat (first | go_big_quiet_skip | (go_big_quiet_want; first | (refine quiet_loadAny (t := 32) rfl _ _ _ rfl (fun w hw => run_load_sl (ov_B b4 w hw).cell0) (by rfl) ?_; simp only [putS]; go_big_quiet_on) | (refine quiet_loadAny (t := 68) rfl _ _ _ rfl (fun w hw => rc_pos (ov_rc rca w hw) hia he) (by first | rfl | omega) ?_; simp only [putS]; go_big_quiet_on) | (go_big_quiet_op; go_big_quiet_on)))
       refine wpQuiet_nil ?_
       (refine wpList_allocBk (t := 68) rfl _ (run_alloc_Ps _ _ rfl) ?_; intro b_x12 wn hle hge ht hbn hzn; have hsz := B.size; replace B := B.trans (hbn.mono (by omega)); have hln := Nat.lt_of_lt_of_eq (Nat.lt_succ_self _) hzn.symm; clear hzn; (try have hlt := b4.lt); (try replace b4 := b4.below (hbn.mono hle)); (try have hlt := b5.lt); (try replace b5 := b5.below (hbn.mono hle)); (try have hlt := r6.lt); (try replace r6 := r6.below (hbn.mono hle)); (try have hlt := r7.lt); (try replace r7 := r7.below (hbn.mono hle)); (try have hlt := od.lt); (try replace od := od.below (hbn.mono hle)); (try have hlt := p10.lt); (try replace p10 := p10.below (hbn.mono hle)); (try have hlt := rca.lt); (try replace rca := rca.below (hbn.mono hle)); (try have hlt := rcb.lt); (try replace rcb := rcb.below (hbn.mono hle)); have x12 := ht; clear ht; simp only [putS])
       (refine wpList_storeB (t := 68) rfl _ _ rfl _ rfl _ rfl x12 (by kernel_rfl) rfl (by simp [Value.oneCell']) ?_; clear x12; intro wn ht hcn hzn; (try replace od := od.chgN hcn (fun kk hkk => Nat.ne_of_lt (Nat.lt_of_lt_of_le (HOB.out kk hkk) (by omega)))); have hsz := B.size; replace hzn := Nat.le_of_eq hzn.symm; replace B := Chg.below B hcn (by omega) B.size; (try replace b4 := b4.of_eq (hcn.block _ b4.lt (by omega))); (try replace b5 := b5.of_eq (hcn.block _ b5.lt (by omega))); (try replace r6 := r6.of_eq (hcn.block _ r6.lt (by omega))); (try replace r7 := r7.of_eq (hcn.block _ r7.lt (by omega))); (try replace od := od.of_eq (hcn.block _ od.lt (by omega))); (try replace p10 := p10.of_eq (hcn.block _ p10.lt (by omega))); (try replace rca := rca.of_eq (hcn.block _ rca.lt (by omega))); (try replace rcb := rcb.of_eq (hcn.block _ rcb.lt (by omega))); have x12 := ht; clear ht; simp only [putS])
       refine wpList_nil ?_
       replace x12 : AtB 68 _ b_x12 #[.int .i64 e.x, .int .i64 e.y] := x12
       go_upto_region 11 with fail
       have qx12 := x12.lt
       refine wp_region_lit ?_
       try simp only [gelS]
       refine wpList_chunk 6 (by kernel_rfl) ?_
       simp only [takS, Nat.reduceAdd]
       repeat (first | go_big_quiet_skip | (go_big_quiet_want; first | (refine quiet_loadAny (t := 32) rfl _ _ _ rfl (fun w hw => run_load_sl (ov_B b5 w hw).cell0) (by rfl) ?_; simp only [putS]; go_big_quiet_on) | (refine quiet_loadAny (t := 68) rfl _ _ _ rfl (fun w hw => rc_pos (ov_rc rcb w hw) hkb hd) (by first | rfl | omega) ?_; simp only [putS]; go_big_quiet_on) | (go_big_quiet_op; go_big_quiet_on)))
       refine wpQuiet_nil ?_
       (refine wpList_allocBk (t := 68) rfl _ (run_alloc_Ps _ _ rfl) ?_; intro b_y13 wn hle hge ht hbn hzn; have hsz := B.size; replace B := B.trans (hbn.mono (by omega)); have hln := Nat.lt_of_lt_of_eq (Nat.lt_succ_self _) hzn.symm; clear hzn; (try have hlt := b4.lt); (try replace b4 := b4.below (hbn.mono hle)); (try have hlt := b5.lt); (try replace b5 := b5.below (hbn.mono hle)); (try have hlt := r6.lt); (try replace r6 := r6.below (hbn.mono hle)); (try have hlt := r7.lt); (try replace r7 := r7.below (hbn.mono hle)); (try have hlt := od.lt); (try replace od := od.below (hbn.mono hle)); (try have hlt := p10.lt); (try replace p10 := p10.below (hbn.mono hle)); (try have hlt := rca.lt); (try replace rca := rca.below (hbn.mono hle)); (try have hlt := rcb.lt); (try replace rcb := rcb.below (hbn.mono hle)); (try have hlt := x12.lt); (try replace x12 := x12.below (hbn.mono hle)); have y13 := ht; clear ht; simp only [putS])
       (refine wpList_storeB (t := 68) rfl _ _ rfl _ rfl _ rfl y13 (by kernel_rfl) rfl (by simp [Value.oneCell']) ?_; clear y13; intro wn ht hcn hzn; (try replace od := od.chgN hcn (fun kk hkk => Nat.ne_of_lt (Nat.lt_of_lt_of_le (HOB.out kk hkk) (by omega)))); have hsz := B.size; replace hzn := Nat.le_of_eq hzn.symm; replace B := Chg.below B hcn (by omega) B.size; (try replace b4 := b4.of_eq (hcn.block _ b4.lt (by omega))); (try replace b5 := b5.of_eq (hcn.block _ b5.lt (by omega))); (try replace r6 := r6.of_eq (hcn.block _ r6.lt (by omega))); (try replace r7 := r7.of_eq (hcn.block _ r7.lt (by omega))); (try replace od := od.of_eq (hcn.block _ od.lt (by omega))); (try replace p10 := p10.of_eq (hcn.block _ p10.lt (by omega))); (try replace rca := rca.of_eq (hcn.block _ rca.lt (by omega))); (try replace rcb := rcb.of_eq (hcn.block _ rcb.lt (by omega))); (try replace x12 := x12.of_eq (hcn.block _ x12.lt (by omega))); have y13 := ht; clear ht; simp only [putS])
       refine wpList_nil ?_
       replace y13 : AtB 68 _ b_y13 #[.int .i64 d.x, .int .i64 d.y] := y13
       clear he hd hia hkb rca rcb
       go_upto_region 12 with fail
       by_cases g1 : e.y < d.y
       ·have q1 : decide (e.y < d.y) = true := decide_eq_true g1
        have HR := Lib.hid (show lf = true from by rw [HLB.out]; exact decide_eq_true (.inl g1))
        clear g1
        refine wp_region_lit ?_
        try simp only [gelS]
        refine wpList_chunk 20 (by kernel_rfl) ?_
        simp only [takS, Nat.reduceAdd]
        repeat (first | go_big_quiet_skip | (go_big_quiet_want; first | (refine quiet_loadAny (t := 3) rfl _ _ _ rfl (fun w hw => run_load_int ((ov_B x12 w hw).cellL 0 rfl)) (by rfl) ?_; simp only [putS]; go_big_quiet_on) | (refine quiet_loadAny (t := 3) rfl _ _ _ rfl (fun w hw => run_load_int ((ov_B x12 w hw).cellL 1 rfl)) (by rfl) ?_; simp only [putS]; go_big_quiet_on) | (refine quiet_loadAny (t := 3) rfl _ _ _ rfl (fun w hw => run_load_int ((ov_B y13 w hw).cellL 0 rfl)) (by rfl) ?_; simp only [putS]; go_big_quiet_on) | (refine quiet_loadAny (t := 3) rfl _ _ _ rfl (fun w hw => run_load_int ((ov_B y13 w hw).cellL 1 rfl)) (by rfl) ?_; simp only [putS]; go_big_quiet_on) | (go_big_quiet_op; go_big_quiet_on)))
        refine wpQuiet_nil ?_
        refine wpList_nil ?_
        go_wp2
        go_meet
        exact ⟨by rw [HR.out], p10, B, by omega, b4, b5, r6, r7, od⟩
       ·have q1 : decide (e.y < d.y) = false := decide_eq_false g1
        by_cases g2 : e.y = d.y
        ·have q2 : decide (e.y = d.y) = true := decide_eq_true g2
         have q4 : (e.y == d.y) = true := beq_iff_eq.2 g2
         by_cases g3 : e.x ≤ d.x
         ·have q3 : decide (e.x ≤ d.x) = true := decide_eq_true g3
          have HR := Lib.hid (show lf = true from by rw [HLB.out]; exact decide_eq_true (.inr ⟨g2, g3⟩))
          clear g1 g2 g3
          refine wp_region_lit ?_
          try simp only [gelS]
          refine wpList_chunk 20 (by kernel_rfl) ?_
          simp only [takS, Nat.reduceAdd]
          repeat (first | go_big_quiet_skip | (go_big_quiet_want; first | (refine quiet_loadAny (t := 3) rfl _ _ _ rfl (fun w hw => run_load_int ((ov_B x12 w hw).cellL 0 rfl)) (by rfl) ?_; simp only [putS]; go_big_quiet_on) | (refine quiet_loadAny (t := 3) rfl _ _ _ rfl (fun w hw => run_load_int ((ov_B x12 w hw).cellL 1 rfl)) (by rfl) ?_; simp only [putS]; go_big_quiet_on) | (refine quiet_loadAny (t := 3) rfl _ _ _ rfl (fun w hw => run_load_int ((ov_B y13 w hw).cellL 0 rfl)) (by rfl) ?_; simp only [putS]; go_big_quiet_on) | (refine quiet_loadAny (t := 3) rfl _ _ _ rfl (fun w hw => run_load_int ((ov_B y13 w hw).cellL 1 rfl)) (by rfl) ?_; simp only [putS]; go_big_quiet_on) | (go_big_quiet_op; go_big_quiet_on)))
          refine wpQuiet_nil ?_
          refine wpList_nil ?_
          go_wp2
          go_meet
          exact ⟨by rw [HR.out], p10, B, by omega, b4, b5, r6, r7, od⟩
         ·have q3 : decide (e.x ≤ d.x) = false := decide_eq_false g3
          have HR := Lib.hid (show lf = false from by rw [HLB.out]; exact decide_eq_false (fun h => by omega))
          clear g1 g2 g3
          refine wp_region_lit ?_
          try simp only [gelS]
          refine wpList_chunk 20 (by kernel_rfl) ?_
          simp only [takS, Nat.reduceAdd]
          repeat (first | go_big_quiet_skip | (go_big_quiet_want; first | (refine quiet_loadAny (t := 3) rfl _ _ _ rfl (fun w hw => run_load_int ((ov_B x12 w hw).cellL 0 rfl)) (by rfl) ?_; simp only [putS]; go_big_quiet_on) | (refine quiet_loadAny (t := 3) rfl _ _ _ rfl (fun w hw => run_load_int ((ov_B x12 w hw).cellL 1 rfl)) (by rfl) ?_; simp only [putS]; go_big_quiet_on) | (refine quiet_loadAny (t := 3) rfl _ _ _ rfl (fun w hw => run_load_int ((ov_B y13 w hw).cellL 0 rfl)) (by rfl) ?_; simp only [putS]; go_big_quiet_on) | (refine quiet_loadAny (t := 3) rfl _ _ _ rfl (fun w hw => run_load_int ((ov_B y13 w hw).cellL 1 rfl)) (by rfl) ?_; simp only [putS]; go_big_quiet_on) | (go_big_quiet_op; go_big_quiet_on)))
          refine wpQuiet_nil ?_
          refine wpList_nil ?_
          go_wp2
          go_meet
          exact ⟨by rw [HR.out], p10, B, by omega, b4, b5, r6, r7, od⟩
        ·have q2 : decide (e.y = d.y) = false := decide_eq_false g2
         have q4 : (e.y == d.y) = false := beq_eq_false_iff_ne.2 g2
         have HR := Lib.hid (show lf = false from by rw [HLB.out]; exact decide_eq_false (fun h => by omega))
         clear g1 g2
         refine wp_region_lit ?_
         try simp only [gelS]
         refine wpList_chunk 20 (by kernel_rfl) ?_
         simp only [takS, Nat.reduceAdd]
         repeat (first | go_big_quiet_skip | (go_big_quiet_want; first | (refine quiet_loadAny (t := 3) rfl _ _ _ rfl (fun w hw => run_load_int ((ov_B x12 w hw).cellL 0 rfl)) (by rfl) ?_; simp only [putS]; go_big_quiet_on) | (refine quiet_loadAny (t := 3) rfl _ _ _ rfl (fun w hw => run_load_int ((ov_B x12 w hw).cellL 1 rfl)) (by rfl) ?_; simp only [putS]; go_big_quiet_on) | (refine quiet_loadAny (t := 3) rfl _ _ _ rfl (fun w hw => run_load_int ((ov_B y13 w hw).cellL 0 rfl)) (by rfl) ?_; simp only [putS]; go_big_quiet_on) | (refine quiet_loadAny (t := 3) rfl _ _ _ rfl (fun w hw => run_load_int ((ov_B y13 w hw).cellL 1 rfl)) (by rfl) ?_; simp only [putS]; go_big_quiet_on) | (go_big_quiet_op; go_big_quiet_on)))
         refine wpQuiet_nil ?_
         refine wpList_nil ?_
         go_wp2
         go_meet
         exact ⟨by rw [HR.out], p10, B, by omega, b4, b5, r6, r7, od⟩
      ·have e48 := HS48.out
       rw [decide_eq_false hb] at e48
       subst e48
       have e11 := HS11.out
       rw [← left_some hb, HLF.out] at e11
       have E11 := Lib.hid e11
       clear e11 hb
       go_wp2
       go_meet
       exact ⟨E11.out, p10, B, by omega, b4, b5, r6, r7, od⟩
     case rest =>
      clear B  hwb  b4  b5  r6  r7  od p10
      obtain ⟨rfl, p10, B, hwb, b4, b5, r6, r7, od⟩ := hcut
      clear HS48 HS11
      go_upto_region 13 with fail
      refine wp_region_lit ?_
      try simp only [gelS]
      refine wpList_chunk 1 (by kernel_rfl) ?_
      simp only [takS, Nat.reduceAdd]
      repeat (first | go_big_quiet_skip | (go_big_quiet_want; go_big_quiet_op; go_big_quiet_on))
      refine wpQuiet_nil ?_
      refine wpList_nil ?_
      go_upto_if 80 with fail
      go_cut [] from 81 to 92 (fun wr => AtB 68 wr b_p10 #[.int .i64 p.1, .int .i64 p.2] ∧ Below w.heap.size w wr ∧ nr ≤ wr.heap.size ∧ AtB 34 wr b_b4 #[.slice aa la.length ca] ∧ AtB 34 wr b_b5 #[.slice ab lb.length cb] ∧ AtB 34 wr b_r6 #[.slice none 0 0] ∧ AtB 34 wr b_r7 #[.slice ao M.length co] ∧ OwnT b0 (.slice ao M.length co) M wr)
      case first =>
       cases lf with
       | true =>
        obtain ⟨hia, hp⟩ := left_true HLF.out HNE.out
        rw [HP.out] at hp
        obtain ⟨ga, oa, rfl, ra0⟩ := HA.out.at (by omega)
        have hga := ra0.lt
        have rca := ra0.of_eq (B.block _ hga)
        clear ra0
        obtain ⟨e, he⟩ : ∃ e, aT la i = e := ⟨_, rfl⟩
        rw [he] at hp
        have HPE := Lib.hid hp
        clear hp
        go_upto_region 14 with fail
        refine wp_region_lit ?_
        try simp only [gelS]
        refine wpList_chunk 6 (by kernel_rfl) ?_
        simp only [takS, Nat.reduceAdd]
        repeat (first | go_big_quiet_skip | (go_big_quiet_want; first | (refine quiet_loadAny (t := 32) rfl _ _ _ rfl (fun w hw => run_load_sl (ov_B b4 w hw).cell0) (by rfl) ?_; simp only [putS]; go_big_quiet_on) | (refine quiet_loadAny (t := 68) rfl _ _ _ rfl (fun w hw => rc_pos (ov_rc rca w hw) hia he) (by first | rfl | omega) ?_; simp only [putS]; go_big_quiet_on) | (go_big_quiet_op; go_big_quiet_on)))
        refine wpQuiet_nil ?_
        (refine wpList_storeB (t := 68) rfl _ _ rfl _ rfl _ rfl p10 (by kernel_rfl) rfl (by simp [Value.oneCell']) ?_; clear p10; intro wn ht hcn hzn; (try replace od := od.chgN hcn (fun kk hkk => Nat.ne_of_lt (Nat.lt_of_lt_of_le (HOB.out kk hkk) (by omega)))); have hsz := B.size; replace hzn := Nat.le_of_eq hzn.symm; replace B := Chg.below B hcn (by omega) B.size; (try replace b4 := b4.of_eq (hcn.block _ b4.lt (by omega))); (try replace b5 := b5.of_eq (hcn.block _ b5.lt (by omega))); (try replace r6 := r6.of_eq (hcn.block _ r6.lt (by omega))); (try replace r7 := r7.of_eq (hcn.block _ r7.lt (by omega))); (try replace od := od.of_eq (hcn.block _ od.lt (by omega))); (try replace rca := rca.of_eq (hcn.block _ rca.lt (by omega))); have p10 := ht; clear ht; simp only [putS])
        refine wpList_nil ?_
        go_wp2
        go_meet
        exact ⟨by rw [HPE.out]; exact p10, B, by omega, b4, b5, r6, r7, od⟩
       | false =>
        obtain ⟨hkb, hp⟩ := left_false HLF.out
        rw [HP.out] at hp
        obtain ⟨gb, ob, rfl, rb0⟩ := HB.out.at (by omega)
        have hgb := rb0.lt
        have rcb := rb0.of_eq (B.block _ hgb)
        clear rb0
        obtain ⟨e, he⟩ : ∃ e, aT lb k = e := ⟨_, rfl⟩
        rw [he] at hp
        have HPE := Lib.hid hp
        clear hp
        go_upto_region 15 with fail
        refine wp_region_lit ?_
        try simp only [gelS]
        refine wpList_chunk 6 (by kernel_rfl) ?_
        simp only [takS, Nat.reduceAdd]
        repeat (first | go_big_quiet_skip | (go_big_quiet_want; first | (refine quiet_loadAny (t := 32) rfl _ _ _ rfl (fun w hw => run_load_sl (ov_B b5 w hw).cell0) (by rfl) ?_; simp only [putS]; go_big_quiet_on) | (refine quiet_loadAny (t := 68) rfl _ _ _ rfl (fun w hw => rc_pos (ov_rc rcb w hw) hkb he) (by first | rfl | omega) ?_; simp only [putS]; go_big_quiet_on) | (go_big_quiet_op; go_big_quiet_on)))
        refine wpQuiet_nil ?_
        (refine wpList_storeB (t := 68) rfl _ _ rfl _ rfl _ rfl p10 (by kernel_rfl) rfl (by simp [Value.oneCell']) ?_; clear p10; intro wn ht hcn hzn; (try replace od := od.chgN hcn (fun kk hkk => Nat.ne_of_lt (Nat.lt_of_lt_of_le (HOB.out kk hkk) (by omega)))); have hsz := B.size; replace hzn := Nat.le_of_eq hzn.symm; replace B := Chg.below B hcn (by omega) B.size; (try replace b4 := b4.of_eq (hcn.block _ b4.lt (by omega))); (try replace b5 := b5.of_eq (hcn.block _ b5.lt (by omega))); (try replace r6 := r6.of_eq (hcn.block _ r6.lt (by omega))); (try replace r7 := r7.of_eq (hcn.block _ r7.lt (by omega))); (try replace od := od.of_eq (hcn.block _ od.lt (by omega))); have p10 := ht; clear ht; simp only [putS])
        refine wpList_nil ?_
        go_wp2
        go_meet
        exact ⟨by rw [HPE.out]; exact p10, B, by omega, b4, b5, r6, r7, od⟩
      case rest =>
       clear B  hwb  b4  b5  r6  r7  od p10
       obtain ⟨p10, B, hwb, b4, b5, r6, r7, od⟩ := hcut
       go_upto_region 16 with fail
       refine wp_region_lit ?_
       try simp only [gelS]
       refine wpList_chunk 2 (by kernel_rfl) ?_
       simp only [takS, Nat.reduceAdd]
       repeat (first | go_big_quiet_skip | (go_big_quiet_want; first | (refine quiet_loadAny (t := 34) rfl _ _ _ rfl (fun w hw => run_load_B (ov_B b4 w hw) Tryz.isAgg34 (by kernel_rfl)) (by rfl) ?_; simp only [putS]; go_big_quiet_on) | (refine quiet_loadAny (t := 68) rfl _ _ _ rfl (fun w hw => run_load_B (ov_B p10 w hw) Tryz.isAgg68 (by kernel_rfl)) (by rfl) ?_; simp only [putS]; go_big_quiet_on) | (go_big_quiet_op; go_big_quiet_on)))
       refine wpQuiet_nil ?_
       refine wpList_callF (by first | rfl | simp [Region.wanted, yielded]) rfl (enters_of Tryz.func43 (by kernel_rfl) rfl) (by simp only [Act.eval, evlS]; rfl) ?_
       refine (R_TileO _ la p.1 p.2 _ (HA.out.below B) HNA.out).mono ?_
       rintro e wn ⟨rfl, hbn⟩
       have hsz := B.size
       have hzn := hbn.size
       replace B := B.trans (hbn.mono B.size)
       (try replace b4 := b4.below hbn)
       (try replace b5 := b5.below hbn)
       (try replace r6 := r6.below hbn)
       (try replace r7 := r7.below hbn)
       (try replace od := od.below hbn)
       (try replace p10 := p10.below hbn)
       refine ⟨_, rfl, ?_⟩
       simp only [putS]
       (refine wpList_allocT' rfl rfl ?_; intro b_t14 wn hle hge ht hbn hzn; have hsz := B.size; replace B := B.trans (hbn.mono (by omega)); have hln := Nat.lt_of_lt_of_eq (Nat.lt_succ_self _) hzn.symm; clear hzn; (try have hlt := b4.lt); (try replace b4 := b4.below (hbn.mono hle)); (try have hlt := b5.lt); (try replace b5 := b5.below (hbn.mono hle)); (try have hlt := r6.lt); (try replace r6 := r6.below (hbn.mono hle)); (try have hlt := r7.lt); (try replace r7 := r7.below (hbn.mono hle)); (try have hlt := od.lt); (try replace od := od.below (hbn.mono hle)); (try have hlt := p10.lt); (try replace p10 := p10.below (hbn.mono hle)); have t14 := ht; clear ht; simp only [putS])
       (refine wpList_storeT rfl _ _ rfl _ rfl _ rfl t14 ?_; clear t14; intro wn ht hcn hzn; (try replace od := od.chgN hcn (fun kk hkk => Nat.ne_of_lt (Nat.lt_of_lt_of_le (HOB.out kk hkk) (by omega)))); have hsz := B.size; replace hzn := Nat.le_of_eq hzn.symm; replace B := Chg.below B hcn (by omega) B.size; (try replace b4 := b4.of_eq (hcn.block _ b4.lt (by omega))); (try replace b5 := b5.of_eq (hcn.block _ b5.lt (by omega))); (try replace r6 := r6.of_eq (hcn.block _ r6.lt (by omega))); (try replace r7 := r7.of_eq (hcn.block _ r7.lt (by omega))); (try replace od := od.of_eq (hcn.block _ od.lt (by omega))); (try replace p10 := p10.of_eq (hcn.block _ p10.lt (by omega))); have t14 := ht; clear ht; simp only [putS])
       refine wpList_nil ?_
       have k8 : b_p10 < b_t14 := by have := p10.lt; omega
       go_upto_region 17 with fail
       refine wp_region_lit ?_
       try simp only [gelS]
       refine wpList_chunk 2 (by kernel_rfl) ?_
       simp only [takS, Nat.reduceAdd]
       repeat (first | go_big_quiet_skip | (go_big_quiet_want; first | (refine quiet_loadAny (t := 34) rfl _ _ _ rfl (fun w hw => run_load_B (ov_B b5 w hw) Tryz.isAgg34 (by kernel_rfl)) (by rfl) ?_; simp only [putS]; go_big_quiet_on) | (refine quiet_loadAny (t := 68) rfl _ _ _ rfl (fun w hw => run_load_B (ov_B p10 w hw) Tryz.isAgg68 (by kernel_rfl)) (by rfl) ?_; simp only [putS]; go_big_quiet_on) | (go_big_quiet_op; go_big_quiet_on)))
       refine wpQuiet_nil ?_
       refine wpList_callF (by first | rfl | simp [Region.wanted, yielded]) rfl (enters_of Tryz.func43 (by kernel_rfl) rfl) (by simp only [Act.eval, evlS]; rfl) ?_
       refine (R_TileO _ lb p.1 p.2 _ (HB.out.below B) HNB.out).mono ?_
       rintro e wn ⟨rfl, hbn⟩
       have hsz := B.size
       have hzn := hbn.size
       replace B := B.trans (hbn.mono B.size)
       (try replace b4 := b4.below hbn)
       (try replace b5 := b5.below hbn)
       (try replace r6 := r6.below hbn)
       (try replace r7 := r7.below hbn)
       (try replace od := od.below hbn)
       (try replace p10 := p10.below hbn)
       (try replace t14 := t14.below hbn)
       refine ⟨_, rfl, ?_⟩
       simp only [putS]
       (refine wpList_allocT' rfl rfl ?_; intro b_t15 wn hle hge ht hbn hzn; have hsz := B.size; replace B := B.trans (hbn.mono (by omega)); have hln := Nat.lt_of_lt_of_eq (Nat.lt_succ_self _) hzn.symm; clear hzn; (try have hlt := b4.lt); (try replace b4 := b4.below (hbn.mono hle)); (try have hlt := b5.lt); (try replace b5 := b5.below (hbn.mono hle)); (try have hlt := r6.lt); (try replace r6 := r6.below (hbn.mono hle)); (try have hlt := r7.lt); (try replace r7 := r7.below (hbn.mono hle)); (try have hlt := od.lt); (try replace od := od.below (hbn.mono hle)); (try have hlt := p10.lt); (try replace p10 := p10.below (hbn.mono hle)); (try have hlt := t14.lt); (try replace t14 := t14.below (hbn.mono hle)); have t15 := ht; clear ht; simp only [putS])
       (refine wpList_storeT rfl _ _ rfl _ rfl _ rfl t15 ?_; clear t15; intro wn ht hcn hzn; (try replace od := od.chgN hcn (fun kk hkk => Nat.ne_of_lt (Nat.lt_of_lt_of_le (HOB.out kk hkk) (by omega)))); have hsz := B.size; replace hzn := Nat.le_of_eq hzn.symm; replace B := Chg.below B hcn (by omega) B.size; (try replace b4 := b4.of_eq (hcn.block _ b4.lt (by omega))); (try replace b5 := b5.of_eq (hcn.block _ b5.lt (by omega))); (try replace r6 := r6.of_eq (hcn.block _ r6.lt (by omega))); (try replace r7 := r7.of_eq (hcn.block _ r7.lt (by omega))); (try replace od := od.of_eq (hcn.block _ od.lt (by omega))); (try replace p10 := p10.of_eq (hcn.block _ p10.lt (by omega))); (try replace t14 := t14.of_eq (hcn.block _ t14.lt (by omega))); have t15 := ht; clear ht; simp only [putS])
       refine wpList_nil ?_
       have k9 : b_t14 < b_t15 := by have := t14.lt; omega
       go_upto_region 18 with fail
       refine wp_region_lit ?_
       try simp only [gelS]
       (refine wpList_allocT' rfl rfl ?_; intro b_u16 wn hle hge ht hbn hzn; have hsz := B.size; replace B := B.trans (hbn.mono (by omega)); have hln := Nat.lt_of_lt_of_eq (Nat.lt_succ_self _) hzn.symm; clear hzn; (try have hlt := b4.lt); (try replace b4 := b4.below (hbn.mono hle)); (try have hlt := b5.lt); (try replace b5 := b5.below (hbn.mono hle)); (try have hlt := r6.lt); (try replace r6 := r6.below (hbn.mono hle)); (try have hlt := r7.lt); (try replace r7 := r7.below (hbn.mono hle)); (try have hlt := od.lt); (try replace od := od.below (hbn.mono hle)); (try have hlt := p10.lt); (try replace p10 := p10.below (hbn.mono hle)); (try have hlt := t14.lt); (try replace t14 := t14.below (hbn.mono hle)); (try have hlt := t15.lt); (try replace t15 := t15.below (hbn.mono hle)); have u16 := ht; clear ht; simp only [putS])
       refine wpList_nil ?_
       have k10 : b_t15 < b_u16 := by have := t15.lt; omega
       rw [← uK_zero (opF op) la lb p] at u16
       go_upto_region 19 with fail
       refine wp_region_lit ?_
       try simp only [gelS]
       refine wpList_chunk 1 (by kernel_rfl) ?_
       simp only [takS, Nat.reduceAdd]
       repeat (first | go_big_quiet_skip | (go_big_quiet_want; go_big_quiet_op; go_big_quiet_on))
       refine wpQuiet_nil ?_
       refine wpList_nil ?_
       go_wp2
       go_loopw [17] (fun jv wr => ∃ j : Nat, j ≤ 64 ∧ jv = .int .i64 j ∧ Below w.heap.size w wr ∧ nr ≤ wr.heap.size ∧ AtB 34 wr b_b4 #[.slice aa la.length ca] ∧ AtB 34 wr b_b5 #[.slice ab lb.length cb] ∧ AtB 34 wr b_r6 #[.slice none 0 0] ∧ AtB 34 wr b_r7 #[.slice ao M.length co] ∧ OwnT b0 (.slice ao M.length co) M wr ∧ AtB 68 wr b_p10 #[.int .i64 p.1, .int .i64 p.2] ∧ TileAt wr b_t14 (tileL la p.1 p.2) ∧ TileAt wr b_t15 (tileL lb p.1 p.2) ∧ TileAt wr b_u16 (uK (opF op) la lb p j)) (fun jv _ => (64 - intOf jv).toNat)
       case atStart => exact ⟨0, by omega, rfl, B, by omega, b4, b5, r6, r7, od, p10, t14, t15, u16⟩
       case round =>
        clear B  hwb  b4  b5  r6  r7  od p10 t14 t15 u16
        obtain ⟨j, hj, rfl, B, hwb, b4, b5, r6, r7, od, p10, t14, t15, u16⟩ := hrel
        by_cases hjl : j < 64
        ·have e1 : decide ((j : Int) < 64) = true := decide_eq_true (by omega)
         have e2 : decide (j < 64) = true := decide_eq_true hjl
         obtain ⟨_, _, _, x1, x2⟩ := tileL_tok HTA.out p.1 p.2 j hjl
         obtain ⟨_, _, _, y1, y2⟩ := tileL_tok HTB.out p.1 p.2 j hjl
         obtain ⟨x, hx⟩ : ∃ x, (tileL la p.1 p.2 j).a = x := ⟨_, rfl⟩
         obtain ⟨y, hy⟩ : ∃ y, (tileL lb p.1 p.2 j).a = y := ⟨_, rfl⟩
         rw [hx] at x1 x2
         rw [hy] at y1 y2
         obtain ⟨r, hr⟩ : ∃ r, opF op x y = r := ⟨_, rfl⟩
         obtain ⟨r1, r2⟩ := (opF_z op).ok x y x1 x2 y1 y2
         rw [hr] at r1 r2
         have HR := Lib.hid hr
         have HU := Lib.hid (uK_step (opF op) la lb p hjl (show opF op (tileL la p.1 p.2 j).a (tileL lb p.1 p.2 j).a = r from by rw [hx, hy]; exact hr))
         clear hr
         go_upto_region 20 with fail
         refine wp_region_lit ?_
         try simp only [gelS]
         refine wpList_chunk 2 (by kernel_rfl) ?_
         simp only [takS, Nat.reduceAdd]
         repeat (first | go_big_quiet_skip | (go_big_quiet_want; go_big_quiet_op; go_big_quiet_on))
         refine wpQuiet_nil ?_
         refine wpList_nil ?_
         go_upto_region 22 with fail
         try simp only [gelS]
         try have lx_b4 := b4.lt
         try have lx_b5 := b5.lt
         try have lx_r6 := r6.lt
         try have lx_r7 := r7.lt
         try have lx_od := od.lt
         try have lx_p10 := p10.lt
         try have lx_t14 := t14.lt
         try have lx_t15 := t15.lt
         try have lx_u16 := u16.lt
         refine wp_region_RL 16 [(12, detS ?v1_12)] (by kernel_rfl) (by kernel_rfl) (by kernel_rfl) ?_
         rotate_left 1
         simp only [takS, Nat.reduceAdd]
         refine wpRL_chunk 12 (by kernel_rfl) ?_
         simp only [takS, Nat.reduceAdd]
         repeat (first | go_big_quiet_skip | (go_big_quiet_want; first | (refine quiet_loadAny (t := 5) rfl _ _ _ rfl (fun w hw => run_load_u8 (alphaE (ov_tile t14 w hw) hjl hx)) (by first | rfl | omega) ?_; simp only [putS]; go_big_quiet_on) | (refine quiet_loadAny (t := 5) rfl _ _ _ rfl (fun w hw => run_load_u8 (alphaE (ov_tile t15 w hw) hjl hy)) (by first | rfl | omega) ?_; simp only [putS]; go_big_quiet_on) | (go_big_quiet_op; go_big_quiet_on)))
         refine wpQuiet_nil ?_
         refine wpRL_callB (by rfl) (by first | rfl | simp [Region.wanted, yielded]) ?_ ?_
         ·intro wn hbn hE Kx hKx
          have hsz := B.size
          have hzn := hbn.size
          replace B := B.trans (hbn.mono B.size)
          (try replace b4 := b4.below hbn)
          (try replace b5 := b5.below hbn)
          (try replace r6 := r6.below hbn)
          (try replace r7 := r7.below hbn)
          (try replace od := od.below hbn)
          (try replace p10 := p10.below hbn)
          (try replace t14 := t14.below hbn)
          (try replace t15 := t15.below hbn)
          (try replace u16 := u16.below hbn)
          refine wp_callF rfl (enters_of Tryz.func44 (by kernel_rfl) rfl) (by simp only [Act.eval, evlS]; rfl) ?_
          refine (R_comb op x y r wn HOP.out ⟨x1, x2⟩ ⟨y1, y2⟩ HR.out).mono ?_
          rintro e wm ⟨rfl, hbm⟩
          refine ⟨_, rfl, ?_⟩
          have hz := hKx () wm trivial hbm
          dsimp only [detS] at hz
          exact hz
         rintro ⟨⟩
         dsimp only [detS]
         simp only [putS]
         refine wpRL_chunk 3 (by kernel_rfl) ?_
         simp only [takS, Nat.reduceAdd]
         repeat (first | go_big_quiet_skip | (go_big_quiet_want; go_big_quiet_op; go_big_quiet_on))
         refine wpQuiet_nil ?_
         refine wpRL_nil ?_
         intro wn hbn hE
         have hsz := B.size
         have hzn := hbn.size
         replace B := B.trans (hbn.mono B.size)
         (try replace b4 := b4.below hbn)
         (try replace b5 := b5.below hbn)
         (try replace r6 := r6.below hbn)
         (try replace r7 := r7.below hbn)
         (try replace od := od.below hbn)
         (try replace p10 := p10.below hbn)
         (try replace t14 := t14.below hbn)
         (try replace t15 := t15.below hbn)
         (try replace u16 := u16.below hbn)
         clear hE
         try simp only [List.drop_succ_cons, List.drop_zero]
         go_wp2_with (first | (refine wpList_storeAl rfl _ _ rfl _ _ rfl _ rfl u16 j hjl (by first | rfl | omega) ?_; clear u16; intro wn ht hcn hzn; (try replace od := od.chgN hcn (fun kk hkk => Nat.ne_of_lt (Nat.lt_of_lt_of_le (HOB.out kk hkk) (by omega)))); have hsz := B.size; replace hzn := Nat.le_of_eq hzn.symm; replace B := Chg.below B hcn (by omega) B.size; (try replace b4 := b4.of_eq (hcn.block _ b4.lt (by omega))); (try replace b5 := b5.of_eq (hcn.block _ b5.lt (by omega))); (try replace r6 := r6.of_eq (hcn.block _ r6.lt (by omega))); (try replace r7 := r7.of_eq (hcn.block _ r7.lt (by omega))); (try replace od := od.of_eq (hcn.block _ od.lt (by omega))); (try replace p10 := p10.of_eq (hcn.block _ p10.lt (by omega))); (try replace t14 := t14.of_eq (hcn.block _ t14.lt (by omega))); (try replace t15 := t15.of_eq (hcn.block _ t15.lt (by omega))); have u16 := ht; clear ht; simp only [putS]) | fail)
         refine NoPan.normal ?_
         rw [HU.out] at u16
         go_upto_region 21 with fail
         refine wp_region_lit ?_
         try simp only [gelS]
         refine wpList_chunk 3 (by kernel_rfl) ?_
         simp only [takS, Nat.reduceAdd]
         repeat (first | go_big_quiet_skip | (go_big_quiet_want; go_big_quiet_op; go_big_quiet_on))
         refine wpQuiet_nil ?_
         refine wpList_nil ?_
         go_wp2
         go_roundw
         case rel => exact ⟨j + 1, by omega, by go_num, B, by omega, b4, b5, r6, r7, od, p10, t14, t15, u16⟩
         case measure => simp [intOf]; omega
        ·have hj64 : j = 64 := by omega
         subst hj64
         rw [uK_all] at u16
         clear hjl hj t14 t15
         go_upto_region 20 with fail
         refine wp_region_lit ?_
         try simp only [gelS]
         refine wpList_chunk 2 (by kernel_rfl) ?_
         simp only [takS, Nat.reduceAdd]
         repeat (first | go_big_quiet_skip | (go_big_quiet_want; go_big_quiet_op; go_big_quiet_on))
         refine wpQuiet_nil ?_
         refine wpList_nil ?_
         go_upto_region 23 with fail
         go_cut [127] from 119 to 126 (fun s wr => s = .bool (okB (opF op) la lb M p) ∧ AtB 68 wr b_p10 #[.int .i64 p.1, .int .i64 p.2] ∧ TileAt wr b_u16 (uT (opF op) la lb p) ∧ Below w.heap.size w wr ∧ nr ≤ wr.heap.size ∧ AtB 34 wr b_b4 #[.slice aa la.length ca] ∧ AtB 34 wr b_b5 #[.slice ab lb.length cb] ∧ AtB 34 wr b_r6 #[.slice none 0 0] ∧ AtB 34 wr b_r7 #[.slice ao M.length co] ∧ OwnT b0 (.slice ao M.length co) M wr)
         case first =>
          cases hz : zeroB (uT (opF op) la lb p) with
          | true =>
           have hneq : ∀ w, (binOp .neq 70 (Tile.v (uT (opF op) la lb p)) (Tile.v fun _ => Px.zero)).run Tryz.prog w = .ok (.bool false) w := fun w => neq_z hz w
           have HOK := Lib.hid (show okB (opF op) la lb M p = false from by unfold okB; rw [hz]; rfl)
           clear hz
           refine wp_region_lit ?_
           try simp only [gelS]
           refine wpList_chunk 1 (by kernel_rfl) ?_
           simp only [takS, Nat.reduceAdd]
           repeat (first | go_big_quiet_skip | (go_big_quiet_want; first | (refine quiet_loadT rfl _ rfl (ov_tile u16) ?_; simp only [putS]; go_big_quiet_on) | (go_big_quiet_op; go_big_quiet_on)))
           refine wpQuiet_nil ?_
           (refine wpList_buildT rfl rfl ?_; simp only [putS])
           refine wpList_chunk 4 (by kernel_rfl) ?_
           simp only [takS, Nat.reduceAdd]
           repeat (first | go_big_quiet_skip | (go_big_quiet_want; first | (refine quiet_loadAny (t := 32) rfl _ _ _ rfl (fun w hw => run_load_sl (ov_B r7 w hw).cell0) (by rfl) ?_; simp only [putS]; go_big_quiet_on) | (go_big_quiet_op; go_big_quiet_on)))
           refine wpQuiet_nil ?_
           refine wpList_skip ?hs32_6 ?_
           case hs32_6 => kernel_rfl
           simp only [putS]
           refine wpList_chunk 2 (by kernel_rfl) ?_
           simp only [takS, Nat.reduceAdd]
           repeat (first | go_big_quiet_skip | (go_big_quiet_want; go_big_quiet_op; go_big_quiet_on))
           refine wpQuiet_nil ?_
           refine wpList_nil ?_
           go_wp2
           go_meet
           exact ⟨by rw [HOK.out], p10, u16, B, by omega, b4, b5, r6, r7, od⟩
          | false =>
           have hneq : ∀ w, (binOp .neq 70 (Tile.v (uT (opF op) la lb p)) (Tile.v fun _ => Px.zero)).run Tryz.prog w = .ok (.bool true) w := fun w => neq_z hz w
           have HOK := Lib.hid (show okB (opF op) la lb M p = decide (M.length < 1024) from by unfold okB; rw [hz]; rfl)
           clear hz
           by_cases hml : M.length < 1024
           ·have d1 : decide ((M.length : Int) < 1024) = true := decide_eq_true (by omega)
            have d2 : decide (M.length < 1024) = true := decide_eq_true hml
            have D2 := Lib.hid d2
            refine wp_region_lit ?_
            try simp only [gelS]
            refine wpList_chunk 1 (by kernel_rfl) ?_
            simp only [takS, Nat.reduceAdd]
            repeat (first | go_big_quiet_skip | (go_big_quiet_want; first | (refine quiet_loadT rfl _ rfl (ov_tile u16) ?_; simp only [putS]; go_big_quiet_on) | (go_big_quiet_op; go_big_quiet_on)))
            refine wpQuiet_nil ?_
            (refine wpList_buildT rfl rfl ?_; simp only [putS])
            refine wpList_chunk 4 (by kernel_rfl) ?_
            simp only [takS, Nat.reduceAdd]
            repeat (first | go_big_quiet_skip | (go_big_quiet_want; first | (refine quiet_loadAny (t := 32) rfl _ _ _ rfl (fun w hw => run_load_sl (ov_B r7 w hw).cell0) (by rfl) ?_; simp only [putS]; go_big_quiet_on) | (go_big_quiet_op; go_big_quiet_on)))
            refine wpQuiet_nil ?_
            refine wpList_lenS (by first | rfl | simp [Region.wanted, yielded]) rfl Tryz.underlying32 rfl ?_
            simp only [putS]
            refine wpList_chunk 2 (by kernel_rfl) ?_
            simp only [takS, Nat.reduceAdd]
            repeat (first | go_big_quiet_skip | (go_big_quiet_want; go_big_quiet_op; go_big_quiet_on))
            refine wpQuiet_nil ?_
            refine wpList_nil ?_
            go_wp2
            go_meet
            exact ⟨by rw [HOK.out, D2.out], p10, u16, B, by omega, b4, b5, r6, r7, od⟩
           ·have d1 : decide ((M.length : Int) < 1024) = false := decide_eq_false (by omega)
            have d2 : decide (M.length < 1024) = false := decide_eq_false hml
            have D2 := Lib.hid d2
            clear hml
            refine wp_region_lit ?_
            try simp only [gelS]
            refine wpList_chunk 1 (by kernel_rfl) ?_
            simp only [takS, Nat.reduceAdd]
            repeat (first | go_big_quiet_skip | (go_big_quiet_want; first | (refine quiet_loadT rfl _ rfl (ov_tile u16) ?_; simp only [putS]; go_big_quiet_on) | (go_big_quiet_op; go_big_quiet_on)))
            refine wpQuiet_nil ?_
            (refine wpList_buildT rfl rfl ?_; simp only [putS])
            refine wpList_chunk 4 (by kernel_rfl) ?_
            simp only [takS, Nat.reduceAdd]
            repeat (first | go_big_quiet_skip | (go_big_quiet_want; first | (refine quiet_loadAny (t := 32) rfl _ _ _ rfl (fun w hw => run_load_sl (ov_B r7 w hw).cell0) (by rfl) ?_; simp only [putS]; go_big_quiet_on) | (go_big_quiet_op; go_big_quiet_on)))
            refine wpQuiet_nil ?_
            refine wpList_lenS (by first | rfl | simp [Region.wanted, yielded]) rfl Tryz.underlying32 rfl ?_
            simp only [putS]
            refine wpList_chunk 2 (by kernel_rfl) ?_
            simp only [takS, Nat.reduceAdd]
            repeat (first | go_big_quiet_skip | (go_big_quiet_want; go_big_quiet_op; go_big_quiet_on))
            refine wpQuiet_nil ?_
            refine wpList_nil ?_
            go_wp2
            go_meet
            exact ⟨by rw [HOK.out, D2.out], p10, u16, B, by omega, b4, b5, r6, r7, od⟩
         case rest =>
          clear B  hwb  b4  b5  r6  r7  od p10 u16
          obtain ⟨hs, p10, u16, B, hwb, b4, b5, r6, r7, od⟩ := hcut
          obtain ⟨zb, hzb⟩ : ∃ b, okB (opF op) la lb M p = b := ⟨_, rfl⟩
          rw [hzb] at hs
          subst hs
          have HZB := Lib.hid hzb
          clear hzb
          go_upto_if 127 with fail
          go_cut [] from 128 to 135 (fun wr => ∃ (M' : List TA) (ao' : Option Addr) (co' : Nat), Hid (combK (opF op) la lb (ps ++ [p]) = M') ∧ AtB 68 wr b_p10 #[.int .i64 p.1, .int .i64 p.2] ∧ Below w.heap.size w wr ∧ nr ≤ wr.heap.size ∧ AtB 34 wr b_b4 #[.slice aa la.length ca] ∧ AtB 34 wr b_b5 #[.slice ab lb.length cb] ∧ AtB 34 wr b_r6 #[.slice none 0 0] ∧ AtB 34 wr b_r7 #[.slice ao' M'.length co'] ∧ OwnT b0 (.slice ao' M'.length co') M' wr)
          case first =>
           cases zb with
           | true =>
            have hml : M.length < 1024 := by
             have := HZB.out
             unfold okB at this
             rw [Bool.and_eq_true, decide_eq_true_iff] at this
             exact this.2
            have HE := Lib.hid (show combK (opF op) la lb (ps ++ [p]) = M ++ [⟨p.1, p.2, uT (opF op) la lb p⟩] from by rw [HCK.out, HZB.out, if_pos rfl])
            go_upto_region 24 with fail
            refine wp_region_lit ?_
            try simp only [gelS]
            refine wpList_chunk 4 (by kernel_rfl) ?_
            simp only [takS, Nat.reduceAdd]
            repeat (first | go_big_quiet_skip | (go_big_quiet_want; first | (refine quiet_loadAny (t := 32) rfl _ _ _ rfl (fun w hw => run_load_sl (ov_B r7 w hw).cell0) (by rfl) ?_; simp only [putS]; go_big_quiet_on) | (refine quiet_loadAny (t := 68) rfl _ _ _ rfl (fun w hw => run_load_B (ov_B p10 w hw) Tryz.isAgg68 (by kernel_rfl)) (by rfl) ?_; simp only [putS]; go_big_quiet_on) | (refine quiet_loadT rfl _ rfl (ov_tile u16) ?_; simp only [putS]; go_big_quiet_on) | (go_big_quiet_op; go_big_quiet_on)))
            refine wpQuiet_nil ?_
            (refine wpList_buildTA rfl _ _ rfl p.1 p.2 (uT (opF op) la lb p) (by rfl) (by rfl) ?_; simp only [putS])
            (refine wpList_bs1T rfl _ rfl ⟨p.1, p.2, uT (opF op) la lb p⟩ (by rfl) ?_; intro b_s1 wn hle hge ht hbn hzn; have hsz := B.size; replace B := B.trans (hbn.mono (by omega)); have hln := Nat.lt_of_lt_of_eq (Nat.lt_succ_self _) hzn.symm; clear hzn; (try have hlt := b4.lt); (try replace b4 := b4.below (hbn.mono hle)); (try have hlt := b5.lt); (try replace b5 := b5.below (hbn.mono hle)); (try have hlt := r6.lt); (try replace r6 := r6.below (hbn.mono hle)); (try have hlt := r7.lt); (try replace r7 := r7.below (hbn.mono hle)); (try have hlt := od.lt); (try replace od := od.below (hbn.mono hle)); (try have hlt := p10.lt); (try replace p10 := p10.below (hbn.mono hle)); (try have hlt := u16.lt); (try replace u16 := u16.below (hbn.mono hle)); have s1 := ht; clear ht; simp only [putS])
            (at_builtin; refine wpList_appendTG rfl _ _ rfl _ rfl _ rfl od s1 (by omega) (by omega) ?_; intro v_od wn ht hbn hbk; have hsz := B.size; have hzn := hbn.size; replace B := B.trans (hbn.mono (by omega)); clear s1; replace b4 := b4.of_eq (hbn.block _ (by omega)); replace b5 := b5.of_eq (hbn.block _ (by omega)); replace r6 := r6.of_eq (hbn.block _ (by omega)); replace r7 := r7.of_eq (hbn.block _ (by omega)); replace p10 := p10.of_eq (hbk _ p10.lt (fun e => by have := HOB.out _ e; omega)); clear od hbk; have od := ht; clear ht; obtain ⟨a_od, c_od, hv, hco⟩ := od.len; subst hv; simp only [putS])
            refine wpList_chunk 1 (by kernel_rfl) ?_
            simp only [takS, Nat.reduceAdd]
            repeat (first | go_big_quiet_skip | (go_big_quiet_want; go_big_quiet_op; go_big_quiet_on))
            refine wpQuiet_nil ?_
            (refine wpList_storeO rfl _ _ rfl _ rfl _ _ _ rfl r7 ?_; clear r7; intro wn ht hcn hzn; have hsz := B.size; replace hzn := Nat.le_of_eq hzn.symm; replace B := Chg.below B hcn (by omega) B.size; (try replace b4 := b4.of_eq (hcn.block _ b4.lt (by omega))); (try replace b5 := b5.of_eq (hcn.block _ b5.lt (by omega))); (try replace r6 := r6.of_eq (hcn.block _ r6.lt (by omega))); (try replace p10 := p10.of_eq (hcn.block _ p10.lt (by omega))); replace od := od.chg hcn (by omega); have r7 := ht; clear ht; simp only [putS])
            refine wpList_nil ?_
            go_wp2
            go_meet
            exact ⟨_, _, _, HE, p10, B, by omega, b4, b5, r6, by simpa using r7, by simpa using od⟩
           | false =>
            have HE := Lib.hid (show combK (opF op) la lb (ps ++ [p]) = M from by rw [HCK.out, HZB.out, if_neg (by decide)])
            go_wp2
            go_meet
            exact ⟨_, _, _, HE, p10, B, by omega, b4, b5, r6, r7, od⟩
          case rest =>
           clear B  hwb  b4  b5  r6  r7  od p10 u16 HCK HOB HM hM HZB
           obtain ⟨M', ao', co', HM', p10, B, hwb, b4, b5, r6, r7, od⟩ := hcut
           obtain ⟨bi, hbi⟩ : ∃ b, mB la p i = b := ⟨_, rfl⟩
           obtain ⟨bk, hbk⟩ : ∃ b, mB lb p k = b := ⟨_, rfl⟩
           have HI := Lib.hid hbi
           have HK := Lib.hid hbk
           clear hbi hbk
           go_upto_region 25 with fail
           go_cut [150] from 136 to 149 (fun s wr => s = .bool bi ∧ AtB 68 wr b_p10 #[.int .i64 p.1, .int .i64 p.2] ∧ Below w.heap.size w wr ∧ nr ≤ wr.heap.size ∧ AtB 34 wr b_b4 #[.slice aa la.length ca] ∧ AtB 34 wr b_b5 #[.slice ab lb.length cb] ∧ AtB 34 wr b_r6 #[.slice none 0 0] ∧ AtB 34 wr b_r7 #[.slice ao' M'.length co'] ∧ OwnT b0 (.slice ao' M'.length co') M' wr)
           case first =>
            by_cases hia : i < la.length
            ·have d1 : decide ((i : Int) < (la.length : Int)) = true := decide_eq_true (by omega)
             have d2 : decide (i < la.length) = true := decide_eq_true (by omega)
             obtain ⟨ga, oa, rfl, ra0⟩ := HA.out.at (by omega)
             have hga := ra0.lt
             have rca := ra0.of_eq (B.block _ hga)
             clear ra0
             obtain ⟨e, he⟩ : ∃ e, aT la i = e := ⟨_, rfl⟩
             have heql : ∀ w, (binOp .eql 68 (Ps.v e.x e.y) (.agg #[.int .i64 p.1, .int .i64 p.2])).run Tryz.prog w = .ok (.bool bi) w := fun w => by rw [← HI.out, mB_eq hia he]; exact eql_pos _ _ _ _ w
             refine wp_region_ov (by kernel_rfl) (by kernel_rfl) ?_
             repeat (first | go_big_quiet_skip | (go_big_quiet_want; first | (refine quiet_loadAny (t := 68) rfl _ _ _ rfl (fun w hw => rc_pos (ov_rc rca w hw) hia he) (by first | rfl | omega) ?_; simp only [putS]; go_big_quiet_on) | (refine quiet_loadAny (t := 68) rfl _ _ _ rfl (fun w hw => run_load_B (ov_B p10 w hw) Tryz.isAgg68 (by kernel_rfl)) (by rfl) ?_; simp only [putS]; go_big_quiet_on) | (refine quiet_loadAny (t := 32) rfl _ _ _ rfl (fun w hw => run_load_sl (ov_B b4 w hw).cell0) (by rfl) ?_; simp only [putS]; go_big_quiet_on) | (go_big_quiet_op; first | go_big_quiet_on | go_big_quiet_call ((fail)))))
             refine wpQuiet_nil ?_
             intro wn hbn
             have hsz := B.size
             have hzn := hbn.size
             replace B := B.trans (hbn.mono B.size)
             try replace b4 := b4.below hbn
             try replace b5 := b5.below hbn
             try replace r6 := r6.below hbn
             try replace r7 := r7.below hbn
             try replace od := od.below hbn
             try replace p10 := p10.below hbn
             go_wp2
             go_meet
             exact ⟨rfl, p10, B, by omega, b4, b5, r6, r7, od⟩
            ·have d1 : decide ((i : Int) < (la.length : Int)) = false := decide_eq_false (by omega)
             have d2 : decide (i < la.length) = false := decide_eq_false (by omega)
             have HF := Lib.hid (show bi = false from by rw [← HI.out]; exact mB_no hia)
             clear hia
             refine wp_region_ov (by kernel_rfl) (by kernel_rfl) ?_
             repeat (first | go_big_quiet_skip | (go_big_quiet_want; first | (refine quiet_loadAny (t := 68) rfl _ _ _ rfl (fun w hw => run_load_B (ov_B p10 w hw) Tryz.isAgg68 (by kernel_rfl)) (by rfl) ?_; simp only [putS]; go_big_quiet_on) | (refine quiet_loadAny (t := 32) rfl _ _ _ rfl (fun w hw => run_load_sl (ov_B b4 w hw).cell0) (by rfl) ?_; simp only [putS]; go_big_quiet_on) | (go_big_quiet_op; first | go_big_quiet_on | go_big_quiet_call ((fail)))))
             refine wpQuiet_nil ?_
             intro wn hbn
             have hsz := B.size
             have hzn := hbn.size
             replace B := B.trans (hbn.mono B.size)
             try replace b4 := b4.below hbn
             try replace b5 := b5.below hbn
             try replace r6 := r6.below hbn
             try replace r7 := r7.below hbn
             try replace od := od.below hbn
             try replace p10 := p10.below hbn
             go_wp2
             go_meet
             exact ⟨by rw [HF.out], p10, B, by omega, b4, b5, r6, r7, od⟩
           case rest =>
            clear B  hwb  b4  b5  r6  r7  od p10
            obtain ⟨rfl, p10, B, hwb, b4, b5, r6, r7, od⟩ := hcut
            cases bi with
            | true =>
             have ei : mNx la p i = i + 1 := by rw [mNx_mB, HI.out]; rfl
             have EI := Lib.hid ei
             clear ei
             go_upto_region 26 with fail
             refine wp_region_lit ?_
             try simp only [gelS]
             refine wpList_chunk 3 (by kernel_rfl) ?_
             simp only [takS, Nat.reduceAdd]
             repeat (first | go_big_quiet_skip | (go_big_quiet_want; go_big_quiet_op; go_big_quiet_on))
             refine wpQuiet_nil ?_
             refine wpList_nil ?_
             go_upto_region 27 with fail
             go_cut [167] from 153 to 166 (fun s wr => s = .bool bk ∧ AtB 68 wr b_p10 #[.int .i64 p.1, .int .i64 p.2] ∧ Below w.heap.size w wr ∧ nr ≤ wr.heap.size ∧ AtB 34 wr b_b4 #[.slice aa la.length ca] ∧ AtB 34 wr b_b5 #[.slice ab lb.length cb] ∧ AtB 34 wr b_r6 #[.slice none 0 0] ∧ AtB 34 wr b_r7 #[.slice ao' M'.length co'] ∧ OwnT b0 (.slice ao' M'.length co') M' wr)
             case first =>
              by_cases hia : k < lb.length
              ·have d1 : decide ((k : Int) < (lb.length : Int)) = true := decide_eq_true (by omega)
               have d2 : decide (k < lb.length) = true := decide_eq_true (by omega)
               obtain ⟨ga, oa, rfl, ra0⟩ := HB.out.at (by omega)
               have hga := ra0.lt
               have rca := ra0.of_eq (B.block _ hga)
               clear ra0
               obtain ⟨e, he⟩ : ∃ e, aT lb k = e := ⟨_, rfl⟩
               have heql : ∀ w, (binOp .eql 68 (Ps.v e.x e.y) (.agg #[.int .i64 p.1, .int .i64 p.2])).run Tryz.prog w = .ok (.bool bk) w := fun w => by rw [← HK.out, mB_eq hia he]; exact eql_pos _ _ _ _ w
               refine wp_region_ov (by kernel_rfl) (by kernel_rfl) ?_
               repeat (first | go_big_quiet_skip | (go_big_quiet_want; first | (refine quiet_loadAny (t := 68) rfl _ _ _ rfl (fun w hw => rc_pos (ov_rc rca w hw) hia he) (by first | rfl | omega) ?_; simp only [putS]; go_big_quiet_on) | (refine quiet_loadAny (t := 68) rfl _ _ _ rfl (fun w hw => run_load_B (ov_B p10 w hw) Tryz.isAgg68 (by kernel_rfl)) (by rfl) ?_; simp only [putS]; go_big_quiet_on) | (refine quiet_loadAny (t := 32) rfl _ _ _ rfl (fun w hw => run_load_sl (ov_B b5 w hw).cell0) (by rfl) ?_; simp only [putS]; go_big_quiet_on) | (go_big_quiet_op; first | go_big_quiet_on | go_big_quiet_call ((fail)))))
               refine wpQuiet_nil ?_
               intro wn hbn
               have hsz := B.size
               have hzn := hbn.size
               replace B := B.trans (hbn.mono B.size)
               try replace b4 := b4.below hbn
               try replace b5 := b5.below hbn
               try replace r6 := r6.below hbn
               try replace r7 := r7.below hbn
               try replace od := od.below hbn
               try replace p10 := p10.below hbn
               go_wp2
               go_meet
               exact ⟨rfl, p10, B, by omega, b4, b5, r6, r7, od⟩
              ·have d1 : decide ((k : Int) < (lb.length : Int)) = false := decide_eq_false (by omega)
               have d2 : decide (k < lb.length) = false := decide_eq_false (by omega)
               have HF := Lib.hid (show bk = false from by rw [← HK.out]; exact mB_no hia)
               clear hia
               refine wp_region_ov (by kernel_rfl) (by kernel_rfl) ?_
               repeat (first | go_big_quiet_skip | (go_big_quiet_want; first | (refine quiet_loadAny (t := 68) rfl _ _ _ rfl (fun w hw => run_load_B (ov_B p10 w hw) Tryz.isAgg68 (by kernel_rfl)) (by rfl) ?_; simp only [putS]; go_big_quiet_on) | (refine quiet_loadAny (t := 32) rfl _ _ _ rfl (fun w hw => run_load_sl (ov_B b5 w hw).cell0) (by rfl) ?_; simp only [putS]; go_big_quiet_on) | (go_big_quiet_op; first | go_big_quiet_on | go_big_quiet_call ((fail)))))
               refine wpQuiet_nil ?_
               intro wn hbn
               have hsz := B.size
               have hzn := hbn.size
               replace B := B.trans (hbn.mono B.size)
               try replace b4 := b4.below hbn
               try replace b5 := b5.below hbn
               try replace r6 := r6.below hbn
               try replace r7 := r7.below hbn
               try replace od := od.below hbn
               try replace p10 := p10.below hbn
               go_wp2
               go_meet
               exact ⟨by rw [HF.out], p10, B, by omega, b4, b5, r6, r7, od⟩
             case rest =>
              clear B  hwb  b4  b5  r6  r7  od p10
              obtain ⟨rfl, p10, B, hwb, b4, b5, r6, r7, od⟩ := hcut
              cases bk with
              | true =>
               have ek : mNx lb p k = k + 1 := by rw [mNx_mB, HK.out]; rfl
               have hlt := HLT.out
               have hms := HMS.out
               rw [EI.out, ek] at hlt hms
               have h1 := hms.hi
               have h2 := hms.hk
               have HMF := Lib.hid hms
               clear hms ek
               go_upto_region 28 with fail
               refine wp_region_lit ?_
               try simp only [gelS]
               refine wpList_chunk 3 (by kernel_rfl) ?_
               simp only [takS, Nat.reduceAdd]
               repeat (first | go_big_quiet_skip | (go_big_quiet_want; go_big_quiet_op; go_big_quiet_on))
               refine wpQuiet_nil ?_
               refine wpList_nil ?_
               go_wp2
               go_roundw
               case rel => exact ⟨_, _, ps ++ [p], M', ao', co', h1, h2, by go_num, by go_num, HMF, HM', B, by omega, b4, b5, r6, r7, od⟩
               case measure => simp [intOf]; omega
              | false =>
               have ek : mNx lb p k = k := by rw [mNx_mB, HK.out]; rfl
               have hlt := HLT.out
               have hms := HMS.out
               rw [EI.out, ek] at hlt hms
               have h1 := hms.hi
               have h2 := hms.hk
               have HMF := Lib.hid hms
               clear hms ek


               go_wp2
               go_roundw
               case rel => exact ⟨_, _, ps ++ [p], M', ao', co', h1, h2, by go_num, by go_num, HMF, HM', B, by omega, b4, b5, r6, r7, od⟩
               case measure => simp [intOf]; omega
            | false =>
             have ei : mNx la p i = i := by rw [mNx_mB, HI.out]; rfl
             have EI := Lib.hid ei
             clear ei


             go_upto_region 27 with fail
             go_cut [167] from 153 to 166 (fun s wr => s = .bool bk ∧ AtB 68 wr b_p10 #[.int .i64 p.1, .int .i64 p.2] ∧ Below w.heap.size w wr ∧ nr ≤ wr.heap.size ∧ AtB 34 wr b_b4 #[.slice aa la.length ca] ∧ AtB 34 wr b_b5 #[.slice ab lb.length cb] ∧ AtB 34 wr b_r6 #[.slice none 0 0] ∧ AtB 34 wr b_r7 #[.slice ao' M'.length co'] ∧ OwnT b0 (.slice ao' M'.length co') M' wr)
             case first =>
              by_cases hia : k < lb.length
              ·have d1 : decide ((k : Int) < (lb.length : Int)) = true := decide_eq_true (by omega)
               have d2 : decide (k < lb.length) = true := decide_eq_true (by omega)
               obtain ⟨ga, oa, rfl, ra0⟩ := HB.out.at (by omega)
               have hga := ra0.lt
               have rca := ra0.of_eq (B.block _ hga)
               clear ra0
               obtain ⟨e, he⟩ : ∃ e, aT lb k = e := ⟨_, rfl⟩
               have heql : ∀ w, (binOp .eql 68 (Ps.v e.x e.y) (.agg #[.int .i64 p.1, .int .i64 p.2])).run Tryz.prog w = .ok (.bool bk) w := fun w => by rw [← HK.out, mB_eq hia he]; exact eql_pos _ _ _ _ w
               refine wp_region_ov (by kernel_rfl) (by kernel_rfl) ?_
               repeat (first | go_big_quiet_skip | (go_big_quiet_want; first | (refine quiet_loadAny (t := 68) rfl _ _ _ rfl (fun w hw => rc_pos (ov_rc rca w hw) hia he) (by first | rfl | omega) ?_; simp only [putS]; go_big_quiet_on) | (refine quiet_loadAny (t := 68) rfl _ _ _ rfl (fun w hw => run_load_B (ov_B p10 w hw) Tryz.isAgg68 (by kernel_rfl)) (by rfl) ?_; simp only [putS]; go_big_quiet_on) | (refine quiet_loadAny (t := 32) rfl _ _ _ rfl (fun w hw => run_load_sl (ov_B b5 w hw).cell0) (by rfl) ?_; simp only [putS]; go_big_quiet_on) | (go_big_quiet_op; first | go_big_quiet_on | go_big_quiet_call ((fail)))))
               refine wpQuiet_nil ?_
               intro wn hbn
               have hsz := B.size
               have hzn := hbn.size
               replace B := B.trans (hbn.mono B.size)
               try replace b4 := b4.below hbn
               try replace b5 := b5.below hbn
               try replace r6 := r6.below hbn
               try replace r7 := r7.below hbn
               try replace od := od.below hbn
               try replace p10 := p10.below hbn
               go_wp2
               go_meet
               exact ⟨rfl, p10, B, by omega, b4, b5, r6, r7, od⟩
              ·have d1 : decide ((k : Int) < (lb.length : Int)) = false := decide_eq_false (by omega)
               have d2 : decide (k < lb.length) = false := decide_eq_false (by omega)
               have HF := Lib.hid (show bk = false from by rw [← HK.out]; exact mB_no hia)
               clear hia
               refine wp_region_ov (by kernel_rfl) (by kernel_rfl) ?_
               repeat (first | go_big_quiet_skip | (go_big_quiet_want; first | (refine quiet_loadAny (t := 68) rfl _ _ _ rfl (fun w hw => run_load_B (ov_B p10 w hw) Tryz.isAgg68 (by kernel_rfl)) (by rfl) ?_; simp only [putS]; go_big_quiet_on) | (refine quiet_loadAny (t := 32) rfl _ _ _ rfl (fun w hw => run_load_sl (ov_B b5 w hw).cell0) (by rfl) ?_; simp only [putS]; go_big_quiet_on) | (go_big_quiet_op; first | go_big_quiet_on | go_big_quiet_call ((fail)))))
               refine wpQuiet_nil ?_
               intro wn hbn
               have hsz := B.size
               have hzn := hbn.size
               replace B := B.trans (hbn.mono B.size)
               try replace b4 := b4.below hbn
               try replace b5 := b5.below hbn
               try replace r6 := r6.below hbn
               try replace r7 := r7.below hbn
               try replace od := od.below hbn
               try replace p10 := p10.below hbn
               go_wp2
               go_meet
               exact ⟨by rw [HF.out], p10, B, by omega, b4, b5, r6, r7, od⟩
             case rest =>
              clear B  hwb  b4  b5  r6  r7  od p10
              obtain ⟨rfl, p10, B, hwb, b4, b5, r6, r7, od⟩ := hcut
              cases bk with
              | true =>
               have ek : mNx lb p k = k + 1 := by rw [mNx_mB, HK.out]; rfl
               have hlt := HLT.out
               have hms := HMS.out
               rw [EI.out, ek] at hlt hms
               have h1 := hms.hi
               have h2 := hms.hk
               have HMF := Lib.hid hms
               clear hms ek
               go_upto_region 28 with fail
               refine wp_region_lit ?_
               try simp only [gelS]
               refine wpList_chunk 3 (by kernel_rfl) ?_
               simp only [takS, Nat.reduceAdd]
               repeat (first | go_big_quiet_skip | (go_big_quiet_want; go_big_quiet_op; go_big_quiet_on))
               refine wpQuiet_nil ?_
               refine wpList_nil ?_
               go_wp2
               go_roundw
               case rel => exact ⟨_, _, ps ++ [p], M', ao', co', h1, h2, by go_num, by go_num, HMF, HM', B, by omega, b4, b5, r6, r7, od⟩
               case measure => simp [intOf]; omega
              | false =>
               have ek : mNx lb p k = k := by rw [mNx_mB, HK.out]; rfl
               have hlt := HLT.out
               have hms := HMS.out
               rw [EI.out, ek] at hlt hms
               have h1 := hms.hi
               have h2 := hms.hk
               have HMF := Lib.hid hms
               clear hms ek
               omega
   ·have hs : (decide (i < la.length) || decide (k < lb.length)) = false := by
     rw [Bool.or_eq_false_iff, decide_eq_false_iff_not, decide_eq_false_iff_not]
     omega
    rw [hs] at hs33
    subst hs33
    have hE : combL (opF op) la lb = M := by
     have h1 := HMG.out
     have e1 : i = la.length := by omega
     have e2 : k = lb.length := by omega
     rw [e1, e2] at h1
     have := mg_end h1
     unfold combL
     rw [← this]
     exact HM.out
    have HE := Lib.hid hE
    clear hE hs
    go_upto_region 29 with fail
    refine wp_region_lit ?_
    try simp only [gelS]
    refine wpList_chunk 1 (by kernel_rfl) ?_
    simp only [takS, Nat.reduceAdd]
    repeat (first | go_big_quiet_skip | (go_big_quiet_want; first | (refine quiet_loadAny (t := 34) rfl _ _ _ rfl (fun w hw => run_load_B (ov_B r7 w hw) Tryz.isAgg34 (by kernel_rfl)) (by rfl) ?_; simp only [putS]; go_big_quiet_on) | (go_big_quiet_op; go_big_quiet_on)))
    refine wpQuiet_nil ?_
    (refine wpList_storeB (t := 34) rfl _ _ rfl _ rfl _ rfl r6 (by kernel_rfl) rfl (by simp [Value.oneCell']) ?_; clear r6; intro wn ht hcn hzn; (try replace od := od.chg hcn (by omega)); have hsz := B.size; replace hzn := Nat.le_of_eq hzn.symm; replace B := Chg.below B hcn (by omega) B.size; (try replace od := od.of_eq (hcn.block _ od.lt (by omega))); have r6 := ht; clear ht; simp only [putS])
    refine wpList_nil ?_
    first | (refine bodyPost_ret (results_B (t := 34) rfl _ _ (b_r6) rfl r6 Tryz.isAgg34 (by kernel_rfl)) rfl ?_) | (go_step; refine bodyPost_ret (results_B (t := 34) rfl _ _ (b_r6) rfl r6 Tryz.isAgg34 (by kernel_rfl)) rfl ?_) | (go_step; go_step; refine bodyPost_ret (results_B (t := 34) rfl _ _ (b_r6) rfl r6 Tryz.isAgg34 (by kernel_rfl)) rfl ?_) | (go_step; go_step; go_step; refine bodyPost_ret (results_B (t := 34) rfl _ _ (b_r6) rfl r6 Tryz.isAgg34 (by kernel_rfl)) rfl ?_) | (go_step; go_step; go_step; go_step; refine bodyPost_ret (results_B (t := 34) rfl _ _ (b_r6) rfl r6 Tryz.isAgg34 (by kernel_rfl)) rfl ?_) | (go_step; go_step; go_step; go_step; go_step; refine bodyPost_ret (results_B (t := 34) rfl _ _ (b_r6) rfl r6 Tryz.isAgg34 (by kernel_rfl)) rfl ?_)
    rw [HE.out]
    exact ⟨_, _, rfl, od.rs, B⟩
/- The program's ways of combining; tiles of two rasters put together. -/
theorem P_Uclo (x y : Int) (w : World) (hx : 0 ≤ x ∧ x ≤ 255) (hy : 0 ≤ y ∧ y ≤ 255) : Calls Tryz.prog 42 #[.int .i64 x, .int .i64 y] w fun e w' => e = .returned (.int .i64 (uOp x y)) ∧ Below w.heap.size w w' := by
 have B := Below.refl w.heap.size w
 go_enter Tryz.func42, Tryz.ntmps42
 go_upto_region 1 with fail
 refine wp_region_lit ?_
 try simp only [gelS]
 refine wpList_chunk 2 (by kernel_rfl) ?_
 simp only [takS, Nat.reduceAdd]
 repeat (first | go_big_quiet_skip | (go_big_quiet_want; go_big_quiet_op; go_big_quiet_on))
 refine wpQuiet_nil ?_
 refine wpList_maxI (by first | rfl | simp [Region.wanted, yielded]) rfl rfl Tryz.underlying3 rfl rfl ?_
 simp only [putS]
 refine wpList_chunk 1 (by kernel_rfl) ?_
 simp only [takS, Nat.reduceAdd]
 repeat (first | go_big_quiet_skip | (go_big_quiet_want; go_big_quiet_op; go_big_quiet_on))
 refine wpQuiet_nil ?_
 refine wpList_nil ?_
 go_wp2
 go_ret
 exact ⟨rfl, B⟩
theorem P_Cclo (x y : Int) (w : World) (hx : 0 ≤ x ∧ x ≤ 255) (hy : 0 ≤ y ∧ y ≤ 255) : Calls Tryz.prog 45 #[.int .i64 x, .int .i64 y] w fun e w' => e = .returned (.int .i64 (cOp x y)) ∧ Below w.heap.size w w' := by
 have B := Below.refl w.heap.size w
 go_enter Tryz.func45, Tryz.ntmps45
 go_upto_region 1 with fail
 refine wp_region_lit ?_
 try simp only [gelS]
 refine wpList_chunk 2 (by kernel_rfl) ?_
 simp only [takS, Nat.reduceAdd]
 repeat (first | go_big_quiet_skip | (go_big_quiet_want; go_big_quiet_op; go_big_quiet_on))
 refine wpQuiet_nil ?_
 refine wpList_minI (by first | rfl | simp [Region.wanted, yielded]) rfl rfl Tryz.underlying3 rfl rfl ?_
 simp only [putS]
 refine wpList_chunk 1 (by kernel_rfl) ?_
 simp only [takS, Nat.reduceAdd]
 repeat (first | go_big_quiet_skip | (go_big_quiet_want; go_big_quiet_op; go_big_quiet_on))
 refine wpQuiet_nil ?_
 refine wpList_nil ?_
 go_wp2
 go_ret
 exact ⟨rfl, B⟩
theorem P_MulB (x y r : Int) (w : World) (e : mulI x y = r) : Calls Tryz.prog 47 #[.int .i64 x, .int .i64 y] w fun e w' => e = .returned (.int .i64 r) ∧ Below w.heap.size w w' := (P_Mul x y w).mono fun _ _ ⟨he, hw⟩ => ⟨by rw [he, e], hw ▸ Below.refl _ _⟩
theorem P_Mclo (x y : Int) (w : World) (hx : 0 ≤ x ∧ x ≤ 255) (hy : 0 ≤ y ∧ y ≤ 255) : Calls Tryz.prog 46 #[.int .i64 x, .int .i64 y] w fun e w' => e = .returned (.int .i64 (mOp x y)) ∧ Below w.heap.size w w' := by
 have B := Below.refl w.heap.size w
 obtain ⟨r, hr⟩ : ∃ r, mulI x (255 - y) = r := ⟨_, rfl⟩
 have HR := Lib.hid hr
 have hm : mOp x y = r := hr
 rw [hm]
 clear hm hr
 go_enter Tryz.func46, Tryz.ntmps46
 go_upto_region 1 with fail
 refine wp_region_lit ?_
 try simp only [gelS]
 refine wpList_chunk 3 (by kernel_rfl) ?_
 simp only [takS, Nat.reduceAdd]
 repeat (first | go_big_quiet_skip | (go_big_quiet_want; go_big_quiet_op; go_big_quiet_on))
 refine wpQuiet_nil ?_
 refine wpList_callF (by first | rfl | simp [Region.wanted, yielded]) rfl (enters_of Tryz.func47 (by kernel_rfl) rfl) (by simp only [Act.eval, evlS]; rfl) ?_
 refine (P_MulB x (255 - y) r _ HR.out).mono ?_
 rintro e wn ⟨rfl, hbn⟩
 have hsz := B.size
 have hzn := hbn.size
 replace B := B.trans (hbn.mono B.size)
 refine ⟨_, rfl, ?_⟩
 simp only [putS]
 refine wpList_chunk 1 (by kernel_rfl) ?_
 simp only [takS, Nat.reduceAdd]
 repeat (first | go_big_quiet_skip | (go_big_quiet_want; go_big_quiet_op; go_big_quiet_on))
 refine wpQuiet_nil ?_
 refine wpList_nil ?_
 go_wp2
 go_ret
 exact ⟨rfl, B⟩
/-! ### Concat -/
theorem wpList_zerosT {ops : Array Oper} {rest : List Oper} {o : Oper} {a : Act} {w : World} {Q : Exit → Act → World → Prop} (hg : o.guard = none) (s x : Operand) (ho : o.op = .call { callee := .builtin .append, args := #[s, x], argTypes := #[32, 3] }) (hs : a.eval s = .slice none 0 0) (n : Nat) (hx : a.eval x = .int .i64 (n : Int)) (h0 : 0 < n) (hn : n ≤ 100000)
  (h : ∀ b c w', n ≤ c → OwnT w.heap.size (.slice (some ⟨b, 0, none⟩) 0 c) [] w' → Below w.heap.size w w' → wpList Tryz.prog ops Q rest (a.put o.dst (.slice (some ⟨b, 0, none⟩) n c)) w') : wpList Tryz.prog ops Q (o :: rest) a w := by
 obtain ⟨i, hi⟩ : ∃ i, Tryz.prog.info? 72 = some i := by
  cases h : Tryz.prog.info? 72 with
  | some i => exact ⟨i, rfl⟩
  | none => have e := ta_info; rw [h] at e; cases e
 have e1 := ta_info
 rw [hi] at e1
 have e1' : i.size = 258 ∧ i.bytes = 272 := by simpa using e1
 have hz := ta_zero
 rw [hi] at hz
 obtain ⟨z, hz', hzs⟩ : ∃ z, i.zero = some z ∧ z.cells.size = 258 := ⟨_, by simpa using hz, by simp [Value.cells]⟩
 have hr := Lib.run_append_nil_zeros (P := Tryz.prog) w 32 3 o.type 72 i z .i64 .i64 Tryz.underlying32 Tryz.underlying3 hi hz' n h0 (by omega) (by omega) (by rw [e1'.2]; omega)
 have hcap : n ≤ grownCap w n 0 72 := grownCap_ge w n 0 _
 have hmax : grownCap w n 0 72 ≤ maxLen := grownCap_le_maxLen w n 0 _ (by unfold maxLen; omega)
 refine Lib.wpList_append_run w hg s x _ _ ho _ _ hs hx _ _ hr (h _ _ _ hcap ?_ ?_)
 ·refine World.ownsRow_made (w := w.drew) (e := 72) _ _ (Nat.le_refl _) hmax ?_
  rw [Array.size_append, size_zeroCells, size_zeroCells, hzs, ← Nat.add_mul, Nat.add_sub_cancel' hcap]
 ·exact ((Below.refl _ _).drew).alloc (Nat.le_refl _) _
set_option maxHeartbeats 2000000 in
theorem P_Grow0T (n : Nat) (w : World) (hn : n ≤ 100000) : Calls Tryz.prog 122 #[.slice none 0 0, .int .i64 (n : Int)] w fun e w' => ∃ a c, e = .returned (.slice a 0 c) ∧ OwnT w.heap.size (.slice a 0 c) [] w' ∧ Below w.heap.size w w' := by
 have B := Below.refl w.heap.size w
 by_cases h0 : 0 < n
 ·have q1 : decide ((n : Int) < 0) = false := decide_eq_false (by omega)
  have q2 : decide ((0 : Int) < (n : Int)) = true := decide_eq_true (by omega)
  have q3 : decide (0 < n) = true := decide_eq_true h0
  go_enter Tryz.func122, Tryz.ntmps122
  go_wp2_with (first | (at_builtin; refine wpList_zerosT rfl _ _ rfl rfl n rfl h0 hn ?_; intro bz cz wn hcz od hbn; have hsz := B.size; replace B := B.trans (hbn.mono B.size); simp only [putS]) | fail)
  go_ret
  exact ⟨_, _, rfl, od, B⟩
 ·obtain rfl : n = 0 := by omega
  go_enter Tryz.func122, Tryz.ntmps122
  go_wp2
  go_ret
  exact ⟨_, _, rfl, OwnT.nil _ _, B⟩
theorem run_bs2T (w : World) (o : Oper) (x y : Operand) (ho : o.op = .buildSlice 141 2 #[(0, x), (1, y)]) (ev : Operand → Value) (a1 a2 : Option Addr) (n1 c1 n2 c2 : Nat) (hx : ev x = .slice a1 n1 c1) (hy : ev y = .slice a2 n2 c2) : (execOp ev o).run Tryz.prog w = .ok (.value (.slice (some ⟨w.heap.size, 0, none⟩) 2 2)) (w.alloc (.cells #[.slice a1 n1 c1, .slice a2 n2 c2] 32)) := by
 obtain ⟨d, p, t, ps, af, gd⟩ := o
 simp only at ho
 subst ho
 unfold execOp
 simp only [List.map_toArray, List.map_cons, List.map_nil, hx, hy]
 kernel_rfl
theorem wpList_bs2T {ops : Array Oper} {rest : List Oper} {o : Oper} {a : Act} {w : World} {Q : Exit → Act → World → Prop} (hg : o.guard = none) (x y : Operand) (ho : o.op = .buildSlice 141 2 #[(0, x), (1, y)]) (a1 a2 : Option Addr) (n1 c1 n2 c2 : Nat) (hx : a.eval x = .slice a1 n1 c1) (hy : a.eval y = .slice a2 n2 c2)
  (h : ∀ b w', w.heap.size ≤ b → b ≤ w.heap.size → AtB 32 w' b #[.slice a1 n1 c1, .slice a2 n2 c2] → Below b w w' → w'.heap.size = b + 1 → wpList Tryz.prog ops Q rest (a.put o.dst (.slice (some ⟨b, 0, none⟩) 2 2)) w') : wpList Tryz.prog ops Q (o :: rest) a w :=
 wpList_plain hg fun K hK => by
  unfold Oper.wp
  rw [run_bs2T w o x y ho _ a1 a2 n1 c1 n2 c2 hx hy]
  exact hK _ _ (h _ _ (Nat.le_refl _) (Nat.le_refl _) (by unfold AtB; rw [heap_get_alloc, if_pos rfl]) ((Below.refl _ _).alloc (Nat.le_refl _) _) (World.size_alloc _ _))
set_option maxHeartbeats 4000000 in
theorem P_ConcatT (b : Nat) (a1 a2 : Option Addr) (c1 c2 : Nat) (la lb : List TA) (w : World) (bs : AtB 32 w b #[.slice a1 la.length c1, .slice a2 lb.length c2]) (ra : RS (.slice a1 la.length c1) la w) (rb : RS (.slice a2 lb.length c2) lb w) (hna : la.length ≤ 1024) (hnb : lb.length ≤ 1024) : Calls Tryz.prog 78 #[.slice (some ⟨b, 0, none⟩) 2 2] w fun e w' => ∃ a c, e = .returned (.slice a (la ++ lb).length c) ∧ RS (.slice a (la ++ lb).length c) (la ++ lb) w' ∧ Below w.heap.size w w' := by
 have B := Below.refl w.heap.size w
 have HA := Lib.hid ra
 have HB := Lib.hid rb
 have HBS := Lib.hid bs
 clear ra rb bs
 go_enter Tryz.func78, Tryz.ntmps78
 go_upto_region 1 with fail
 refine wp_region_lit ?_
 try simp only [gelS]
 refine wpList_chunk 1 (by kernel_rfl) ?_
 simp only [takS, Nat.reduceAdd]
 repeat (first | go_big_quiet_skip | (go_big_quiet_want; go_big_quiet_op; go_big_quiet_on))
 refine wpQuiet_nil ?_
 refine wpList_nil ?_
 go_upto_region 2 with fail
 refine wp_region_lit ?_
 try simp only [gelS]
 refine wpList_chunk 1 (by kernel_rfl) ?_
 simp only [takS, Nat.reduceAdd]
 repeat (first | go_big_quiet_skip | (go_big_quiet_want; go_big_quiet_op; go_big_quiet_on))
 refine wpQuiet_nil ?_
 refine wpList_lenS (by first | rfl | simp [Region.wanted, yielded]) rfl Tryz.underlying141 rfl ?_
 simp only [putS]
 refine wpList_chunk 1 (by kernel_rfl) ?_
 simp only [takS, Nat.reduceAdd]
 repeat (first | go_big_quiet_skip | (go_big_quiet_want; go_big_quiet_op; go_big_quiet_on))
 refine wpQuiet_nil ?_
 refine wpList_nil ?_
 go_wp2
 go_loopw [3, 5, 11] (fun sv _ iv wr => ∃ (k n : Nat), k ≤ 2 ∧ iv = .int .i64 (k : Int) ∧ sv = .int .i64 (n : Int) ∧ Hid (n = if k = 0 then 0 else if k = 1 then la.length else la.length + lb.length) ∧ Below w.heap.size w wr) (fun _ _ iv _ => (2 - intOf iv).toNat)
 case atStart => exact ⟨0, 0, by omega, rfl, rfl, Lib.hid rfl, B⟩
 case round =>
  clear B
  obtain ⟨k, n, hk, rfl, rfl, HN, B⟩ := hrel
  have hn : n ≤ 4096 := by
   rw [HN.out]
   split
   ·omega
   ·split <;> omega
  have hk3 : k = 0 ∨ k = 1 ∨ k = 2 := by omega
  rcases hk3 with rfl | rfl | rfl
  ·have q1 : decide (((0 : Nat) : Int) < 2) = true := by decide
   have bs := HBS.out.of_eq (B.block _ HBS.out.lt)
   have q3 : decide ((n : Int) + (la.length : Int) < 0) = false := decide_eq_false (by omega)
   have HN2 := Lib.hid (show n + la.length = la.length from by have := HN.out; simp at this; omega)
   go_upto_region 3 with fail
   refine wp_region_lit ?_
   try simp only [gelS]
   refine wpList_chunk 1 (by kernel_rfl) ?_
   simp only [takS, Nat.reduceAdd]
   repeat (first | go_big_quiet_skip | (go_big_quiet_want; go_big_quiet_op; go_big_quiet_on))
   refine wpQuiet_nil ?_
   refine wpList_nil ?_
   go_upto_region 4 with fail
   refine wp_region_lit ?_
   try simp only [gelS]
   refine wpList_chunk 3 (by kernel_rfl) ?_
   simp only [takS, Nat.reduceAdd]
   repeat (first | go_big_quiet_skip | (go_big_quiet_want; first | (refine quiet_loadAny (t := 32) rfl _ _ _ rfl (fun w hw => run_load_sl ((ov_B bs w hw).cell 0 rfl)) (by first | rfl | omega) ?_; simp only [putS]; go_big_quiet_on) | (go_big_quiet_op; go_big_quiet_on)))
   refine wpQuiet_nil ?_
   refine wpList_nil ?_
   go_upto_region 5 with fail
   refine wp_region_lit ?_
   try simp only [gelS]
   refine wpList_chunk 2 (by kernel_rfl) ?_
   simp only [takS, Nat.reduceAdd]
   repeat (first | go_big_quiet_skip | (go_big_quiet_want; go_big_quiet_op; go_big_quiet_on))
   refine wpQuiet_nil ?_
   refine wpList_lenS (by first | rfl | simp [Region.wanted, yielded]) rfl Tryz.underlying32 rfl ?_
   simp only [putS]
   refine wpList_chunk 2 (by kernel_rfl) ?_
   simp only [takS, Nat.reduceAdd]
   repeat (first | go_big_quiet_skip | (go_big_quiet_want; go_big_quiet_op; go_big_quiet_on))
   refine wpQuiet_nil ?_
   refine wpList_nil ?_
   go_upto_region 6 with fail
   refine wp_region_lit ?_
   try simp only [gelS]
   refine wpList_chunk 2 (by kernel_rfl) ?_
   simp only [takS, Nat.reduceAdd]
   repeat (first | go_big_quiet_skip | (go_big_quiet_want; go_big_quiet_op; go_big_quiet_on))
   refine wpQuiet_nil ?_
   refine wpList_nil ?_
   go_upto_region 8 with fail
   refine wp_region_lit ?_
   try simp only [gelS]
   refine wpList_chunk 2 (by kernel_rfl) ?_
   simp only [takS, Nat.reduceAdd]
   repeat (first | go_big_quiet_skip | (go_big_quiet_want; go_big_quiet_op; go_big_quiet_on))
   refine wpQuiet_nil ?_
   refine wpList_nil ?_
   go_wp2
   go_roundw
   case rel => exact ⟨0 + 1, n + la.length, by omega, by go_num, by go_num, Lib.hid (by rw [HN2.out]; rfl), B⟩
   case measure => simp [intOf]
  ·have q1 : decide (((1 : Nat) : Int) < 2) = true := by decide
   have bs := HBS.out.of_eq (B.block _ HBS.out.lt)
   have q3 : decide ((n : Int) + (lb.length : Int) < 0) = false := decide_eq_false (by omega)
   have HN2 := Lib.hid (show n + lb.length = la.length + lb.length from by have := HN.out; simp at this; omega)
   go_upto_region 3 with fail
   refine wp_region_lit ?_
   try simp only [gelS]
   refine wpList_chunk 1 (by kernel_rfl) ?_
   simp only [takS, Nat.reduceAdd]
   repeat (first | go_big_quiet_skip | (go_big_quiet_want; go_big_quiet_op; go_big_quiet_on))
   refine wpQuiet_nil ?_
   refine wpList_nil ?_
   go_upto_region 4 with fail
   refine wp_region_lit ?_
   try simp only [gelS]
   refine wpList_chunk 3 (by kernel_rfl) ?_
   simp only [takS, Nat.reduceAdd]
   repeat (first | go_big_quiet_skip | (go_big_quiet_want; first | (refine quiet_loadAny (t := 32) rfl _ _ _ rfl (fun w hw => run_load_sl ((ov_B bs w hw).cell 1 rfl)) (by first | rfl | omega) ?_; simp only [putS]; go_big_quiet_on) | (go_big_quiet_op; go_big_quiet_on)))
   refine wpQuiet_nil ?_
   refine wpList_nil ?_
   go_upto_region 5 with fail
   refine wp_region_lit ?_
   try simp only [gelS]
   refine wpList_chunk 2 (by kernel_rfl) ?_
   simp only [takS, Nat.reduceAdd]
   repeat (first | go_big_quiet_skip | (go_big_quiet_want; go_big_quiet_op; go_big_quiet_on))
   refine wpQuiet_nil ?_
   refine wpList_lenS (by first | rfl | simp [Region.wanted, yielded]) rfl Tryz.underlying32 rfl ?_
   simp only [putS]
   refine wpList_chunk 2 (by kernel_rfl) ?_
   simp only [takS, Nat.reduceAdd]
   repeat (first | go_big_quiet_skip | (go_big_quiet_want; go_big_quiet_op; go_big_quiet_on))
   refine wpQuiet_nil ?_
   refine wpList_nil ?_
   go_upto_region 6 with fail
   refine wp_region_lit ?_
   try simp only [gelS]
   refine wpList_chunk 2 (by kernel_rfl) ?_
   simp only [takS, Nat.reduceAdd]
   repeat (first | go_big_quiet_skip | (go_big_quiet_want; go_big_quiet_op; go_big_quiet_on))
   refine wpQuiet_nil ?_
   refine wpList_nil ?_
   go_upto_region 8 with fail
   refine wp_region_lit ?_
   try simp only [gelS]
   refine wpList_chunk 2 (by kernel_rfl) ?_
   simp only [takS, Nat.reduceAdd]
   repeat (first | go_big_quiet_skip | (go_big_quiet_want; go_big_quiet_op; go_big_quiet_on))
   refine wpQuiet_nil ?_
   refine wpList_nil ?_
   go_wp2
   go_roundw
   case rel => exact ⟨1 + 1, n + lb.length, by omega, by go_num, by go_num, Lib.hid (by rw [HN2.out]; rfl), B⟩
   case measure => simp [intOf]
  ·have q1 : decide (((2 : Nat) : Int) < 2) = false := by decide
   go_upto_region 3 with fail
   refine wp_region_lit ?_
   try simp only [gelS]
   refine wpList_chunk 1 (by kernel_rfl) ?_
   simp only [takS, Nat.reduceAdd]
   repeat (first | go_big_quiet_skip | (go_big_quiet_want; go_big_quiet_op; go_big_quiet_on))
   refine wpQuiet_nil ?_
   refine wpList_nil ?_
   go_upto_region 9 with fail
   refine wp_region_lit ?_
   try simp only [gelS]
   refine wpList_chunk 1 (by kernel_rfl) ?_
   simp only [takS, Nat.reduceAdd]
   repeat (first | go_big_quiet_skip | (go_big_quiet_want; go_big_quiet_op; go_big_quiet_on))
   refine wpQuiet_nil ?_
   refine wpList_callF (by first | rfl | simp [Region.wanted, yielded]) rfl (enters_of Tryz.func122 (by kernel_rfl) rfl) (by simp only [Act.eval, evlS]; rfl) ?_
   refine (P_Grow0T n _ (by omega)).mono ?_
   rintro e wn ⟨ag, cg, rfl, od0, hbn⟩
   have hsz := B.size
   have hzn := hbn.size
   replace B := B.trans (hbn.mono B.size)
   refine ⟨_, rfl, ?_⟩
   simp only [putS]
   refine wpList_chunk 1 (by kernel_rfl) ?_
   simp only [takS, Nat.reduceAdd]
   repeat (first | go_big_quiet_skip | (go_big_quiet_want; go_big_quiet_op; go_big_quiet_on))
   refine wpQuiet_nil ?_
   refine wpList_nil ?_
   have od := od0.mono (show w.heap.size ≤ _ from by have := hsz; omega)
   clear od0
   go_upto_region 10 with fail
   refine wp_region_lit ?_
   try simp only [gelS]
   refine wpList_chunk 1 (by kernel_rfl) ?_
   simp only [takS, Nat.reduceAdd]
   repeat (first | go_big_quiet_skip | (go_big_quiet_want; go_big_quiet_op; go_big_quiet_on))
   refine wpQuiet_nil ?_
   refine wpList_lenS (by first | rfl | simp [Region.wanted, yielded]) rfl Tryz.underlying141 rfl ?_
   simp only [putS]
   refine wpList_chunk 1 (by kernel_rfl) ?_
   simp only [takS, Nat.reduceAdd]
   repeat (first | go_big_quiet_skip | (go_big_quiet_want; go_big_quiet_op; go_big_quiet_on))
   refine wpQuiet_nil ?_
   refine wpList_nil ?_
   go_wp2
   go_loopw [6, 8, 27] (fun nv _ iv wr => ∃ (k : Nat) (ao : Option Addr) (co : Nat) (L : List TA), k ≤ 2 ∧ iv = .int .i64 (k : Int) ∧ nv = .slice ao L.length co ∧ Hid (L = if k = 0 then [] else if k = 1 then la else la ++ lb) ∧ Below w.heap.size w wr ∧ OwnT w.heap.size (.slice ao L.length co) L wr) (fun _ _ iv _ => (2 - intOf iv).toNat)
   case atStart => exact ⟨0, ag, cg, [], by omega, rfl, rfl, Lib.hid rfl, B, od⟩
   case round =>
    clear B od
    obtain ⟨k, ao, co, L, hk, rfl, rfl, HL, B, od⟩ := hrel
    have hL : L.length ≤ 4096 := by
     rw [HL.out]
     split
     ·simp
     ·split
      ·omega
      ·rw [List.length_append]; omega
    have hk3 : k = 0 ∨ k = 1 ∨ k = 2 := by omega
    rcases hk3 with rfl | rfl | rfl
    ·have q1 : decide (((0 : Nat) : Int) < 2) = true := by decide
     have bs := HBS.out.of_eq (B.block _ HBS.out.lt)
     have HN2 := Lib.hid (show L ++ la = la from by have := HL.out; simp at this; rw [this]; try rfl)
     go_upto_region 11 with fail
     refine wp_region_lit ?_
     try simp only [gelS]
     refine wpList_chunk 1 (by kernel_rfl) ?_
     simp only [takS, Nat.reduceAdd]
     repeat (first | go_big_quiet_skip | (go_big_quiet_want; go_big_quiet_op; go_big_quiet_on))
     refine wpQuiet_nil ?_
     refine wpList_nil ?_
     go_upto_region 12 with fail
     refine wp_region_lit ?_
     try simp only [gelS]
     refine wpList_chunk 3 (by kernel_rfl) ?_
     simp only [takS, Nat.reduceAdd]
     repeat (first | go_big_quiet_skip | (go_big_quiet_want; first | (refine quiet_loadAny (t := 32) rfl _ _ _ rfl (fun w hw => run_load_sl ((ov_B bs w hw).cell 0 rfl)) (by first | rfl | omega) ?_; simp only [putS]; go_big_quiet_on) | (go_big_quiet_op; go_big_quiet_on)))
     refine wpQuiet_nil ?_
     refine wpList_nil ?_
     have hBs := B.size
     clear bs
     go_upto_region 13 with fail
     refine wp_region_lit ?_
     try simp only [gelS]
     refine wpList_chunk 2 (by kernel_rfl) ?_
     simp only [takS, Nat.reduceAdd]
     repeat (first | go_big_quiet_skip | (go_big_quiet_want; go_big_quiet_op; go_big_quiet_on))
     refine wpQuiet_nil ?_
     (at_builtin; refine wpList_appendT rfl _ _ rfl _ _ rfl rfl od ((HA.out.below B)) (by omega) (by omega) ?_; intro v_od wn ht hbn; have hsz := B.size; have hzn := hbn.size; replace B := B.trans (hbn.mono (by omega)); clear od; have od := ht; clear ht; simp only [putS])
     refine wpList_chunk 1 (by kernel_rfl) ?_
     simp only [takS, Nat.reduceAdd]
     repeat (first | go_big_quiet_skip | (go_big_quiet_want; go_big_quiet_op; go_big_quiet_on))
     refine wpQuiet_nil ?_
     refine wpList_nil ?_
     go_upto_region 14 with fail
     refine wp_region_lit ?_
     try simp only [gelS]
     refine wpList_chunk 2 (by kernel_rfl) ?_
     simp only [takS, Nat.reduceAdd]
     repeat (first | go_big_quiet_skip | (go_big_quiet_want; go_big_quiet_op; go_big_quiet_on))
     refine wpQuiet_nil ?_
     refine wpList_nil ?_
     obtain ⟨ax, cx, rfl, _⟩ := od.len
     go_wp2
     go_roundw
     case rel => exact ⟨0 + 1, _, _, L ++ la, by omega, by go_num, rfl, Lib.hid (by rw [HN2.out]; rfl), B, od⟩
     case measure => simp [intOf]
    ·have q1 : decide (((1 : Nat) : Int) < 2) = true := by decide
     have bs := HBS.out.of_eq (B.block _ HBS.out.lt)
     have HN2 := Lib.hid (show L ++ lb = la ++ lb from by have := HL.out; simp at this; rw [this]; try rfl)
     go_upto_region 11 with fail
     refine wp_region_lit ?_
     try simp only [gelS]
     refine wpList_chunk 1 (by kernel_rfl) ?_
     simp only [takS, Nat.reduceAdd]
     repeat (first | go_big_quiet_skip | (go_big_quiet_want; go_big_quiet_op; go_big_quiet_on))
     refine wpQuiet_nil ?_
     refine wpList_nil ?_
     go_upto_region 12 with fail
     refine wp_region_lit ?_
     try simp only [gelS]
     refine wpList_chunk 3 (by kernel_rfl) ?_
     simp only [takS, Nat.reduceAdd]
     repeat (first | go_big_quiet_skip | (go_big_quiet_want; first | (refine quiet_loadAny (t := 32) rfl _ _ _ rfl (fun w hw => run_load_sl ((ov_B bs w hw).cell 1 rfl)) (by first | rfl | omega) ?_; simp only [putS]; go_big_quiet_on) | (go_big_quiet_op; go_big_quiet_on)))
     refine wpQuiet_nil ?_
     refine wpList_nil ?_
     have hBs := B.size
     clear bs
     go_upto_region 13 with fail
     refine wp_region_lit ?_
     try simp only [gelS]
     refine wpList_chunk 2 (by kernel_rfl) ?_
     simp only [takS, Nat.reduceAdd]
     repeat (first | go_big_quiet_skip | (go_big_quiet_want; go_big_quiet_op; go_big_quiet_on))
     refine wpQuiet_nil ?_
     (at_builtin; refine wpList_appendT rfl _ _ rfl _ _ rfl rfl od ((HB.out.below B)) (by omega) (by omega) ?_; intro v_od wn ht hbn; have hsz := B.size; have hzn := hbn.size; replace B := B.trans (hbn.mono (by omega)); clear od; have od := ht; clear ht; simp only [putS])
     refine wpList_chunk 1 (by kernel_rfl) ?_
     simp only [takS, Nat.reduceAdd]
     repeat (first | go_big_quiet_skip | (go_big_quiet_want; go_big_quiet_op; go_big_quiet_on))
     refine wpQuiet_nil ?_
     refine wpList_nil ?_
     go_upto_region 14 with fail
     refine wp_region_lit ?_
     try simp only [gelS]
     refine wpList_chunk 2 (by kernel_rfl) ?_
     simp only [takS, Nat.reduceAdd]
     repeat (first | go_big_quiet_skip | (go_big_quiet_want; go_big_quiet_op; go_big_quiet_on))
     refine wpQuiet_nil ?_
     refine wpList_nil ?_
     obtain ⟨ax, cx, rfl, _⟩ := od.len
     go_wp2
     go_roundw
     case rel => exact ⟨1 + 1, _, _, L ++ lb, by omega, by go_num, rfl, Lib.hid (by rw [HN2.out]; rfl), B, od⟩
     case measure => simp [intOf]
    ·have q1 : decide (((2 : Nat) : Int) < 2) = false := by decide
     have HE := Lib.hid (show la ++ lb = L from by have := HL.out; simp at this; exact this.symm)
     go_upto_region 11 with fail
     refine wp_region_lit ?_
     try simp only [gelS]
     refine wpList_chunk 1 (by kernel_rfl) ?_
     simp only [takS, Nat.reduceAdd]
     repeat (first | go_big_quiet_skip | (go_big_quiet_want; go_big_quiet_op; go_big_quiet_on))
     refine wpQuiet_nil ?_
     refine wpList_nil ?_
     go_upto_region 15 with fail
     refine wp_region_lit ?_
     try simp only [gelS]
     refine wpList_chunk 2 (by kernel_rfl) ?_
     simp only [takS, Nat.reduceAdd]
     repeat (first | go_big_quiet_skip | (go_big_quiet_want; go_big_quiet_op; go_big_quiet_on))
     refine wpQuiet_nil ?_
     refine wpList_nil ?_
     go_wp2
     go_ret
     rw [HE.out]
     exact ⟨_, _, rfl, od.rs, B⟩
/- Positions: equal neighbours left out (plain); a row of positions that is written in place. -/
/-- The first m of q, equal neighbours left out. -/
def ddK (q : Nat → Psn) : Nat → List Psn
 | 0 => []
 | m + 1 => if m = 0 ∨ q m ≠ q (m - 1) then ddK q m ++ [q m] else ddK q m
theorem ddK_len (q : Nat → Psn) : ∀ m, (ddK q m).length ≤ m
 | 0 => Nat.le_refl _
 | m + 1 => by
  have := ddK_len q m
  unfold ddK
  split
  ·rw [List.length_append]; simp; omega
  ·omega
theorem ddK_mem (q : Nat → Psn) : ∀ m p, p ∈ ddK q m ↔ ∃ j, j < m ∧ q j = p
 | 0, p => ⟨fun h => (by cases h), fun ⟨j, hj, _⟩ => (by omega)⟩
 | m + 1, p => by
  have ih := ddK_mem q m p
  unfold ddK
  by_cases h : m = 0 ∨ q m ≠ q (m - 1)
  ·rw [if_pos h, List.mem_append, List.mem_singleton, ih]
   constructor
   ·rintro (⟨j, hj, e⟩ | e)
    ·exact ⟨j, by omega, e⟩
    ·exact ⟨m, by omega, e.symm⟩
   ·rintro ⟨j, hj, e⟩
    by_cases hjm : j = m
    ·exact .inr (by rw [← e, hjm])
    ·exact .inl ⟨j, by omega, e⟩
  ·rw [if_neg h, ih]
   constructor
   ·rintro ⟨j, hj, e⟩
    exact ⟨j, by omega, e⟩
   ·rintro ⟨j, hj, e⟩
    by_cases hjm : j = m
    ·refine ⟨m - 1, by omega, ?_⟩
     rw [← e, hjm]
     exact (Classical.not_not.1 (fun k => h (.inr k))).symm
    ·exact ⟨j, by omega, e⟩
/-- In a row in order, what is left is in order, each once; and nothing lies behind the last one. -/
theorem ddK_srt (q : Nat → Psn) (n : Nat) (h : ∀ i j, i < j → j < n → ltQ (q j) (q i) = false) : ∀ m, m ≤ n → SrtQ (ddK q m) ∧ ∀ p ∈ ddK q m, p = q (m - 1) ∨ ltQ p (q (m - 1)) = true
 | 0, _ => ⟨List.Pairwise.nil, fun p hp => (by cases hp)⟩
 | m + 1, hm => by
  obtain ⟨h1, h2⟩ := ddK_srt q n h m (by omega)
  rw [Nat.add_sub_cancel]
  unfold ddK
  by_cases hc : m = 0 ∨ q m ≠ q (m - 1)
  ·rw [if_pos hc]
   have hall : ∀ p ∈ ddK q m, ltQ p (q m) = true := fun p hp => by
    by_cases h0 : m = 0
    ·subst h0; cases hp
    ·have hne : q m ≠ q (m - 1) := by
      rcases hc with k | k
      ·exact absurd k h0
      ·exact k
     have hlt : ltQ (q (m - 1)) (q m) = true := by
      rcases ltQ_tri (q (m - 1)) (q m) with k | k | k
      ·exact k
      ·exact absurd k.symm hne
      ·rw [h (m - 1) m (by omega) (by omega)] at k; cases k
     rcases h2 p hp with e | e
     ·rw [e]; exact hlt
     ·exact ltQ_trans e hlt
   refine ⟨List.pairwise_append.2 ⟨h1, List.pairwise_cons.2 ⟨fun _ k => (by cases k), List.Pairwise.nil⟩, fun p hp r hr => by rw [List.mem_singleton.1 hr]; exact hall p hp⟩, fun p hp => ?_⟩
   rcases List.mem_append.1 hp with k | k
   ·exact .inr (hall p k)
   ·exact .inl (List.mem_singleton.1 k)
  ·rw [if_neg hc]
   have he : q m = q (m - 1) := Classical.not_not.1 (fun k => hc (.inr k))
   rw [he]
   exact ⟨h1, h2⟩
def updP (f : Nat → Psn) (i : Nat) (p : Psn) : Nat → Psn := fun j => if j = i then p else f j
/-! ### A row of positions -/
def PRow (w : World) (g n : Nat) (f : Nat → Psn) : Prop := ∃ cur, AtB 68 w g cur ∧ ∀ j, j < n → cur[j * 2]? = some (.int .i64 (f j).1) ∧ cur[j * 2 + 1]? = some (.int .i64 (f j).2)
theorem PRow.lt {w : World} {g n : Nat} {f : Nat → Psn} (h : PRow w g n f) : g < w.heap.size := by
 obtain ⟨c, h, _⟩ := h
 exact h.lt
theorem PRow.of_eq {w w' : World} {g n : Nat} {f : Nat → Psn} (h : PRow w g n f) (e : w'.heap[g]? = w.heap[g]?) : PRow w' g n f := by
 obtain ⟨c, h, k⟩ := h
 exact ⟨c, h.of_eq e, k⟩
theorem PRow.below {w w' : World} {g n : Nat} {f : Nat → Psn} (h : PRow w g n f) (e : Below w.heap.size w w') : PRow w' g n f := h.of_eq (e.block _ h.lt)
theorem PRow.cell {w : World} {g n : Nat} {f : Nat → Psn} (h : PRow w g n f) {i : Nat} (hi : i < n) : w.cell? ⟨g, i * 2, none⟩ = some (.int .i64 (f i).1) ∧ w.cell? ⟨g, i * 2 + 1, none⟩ = some (.int .i64 (f i).2) := by
 obtain ⟨c, h, k⟩ := h
 exact ⟨((cells_of_block h).1 _).trans (k i hi).1, ((cells_of_block h).1 _).trans (k i hi).2⟩
theorem PRow.frozen {w : World} {g n : Nat} {f : Nat → Psn} (h : PRow w g n f) (j : Nat) : w.frozen? ⟨g, j, none⟩ = false := by
 obtain ⟨c, h, k⟩ := h
 exact (cells_of_block h).2 j
theorem ov_prow {w : World} {g n : Nat} {f : Nat → Psn} (h : PRow w g n f) : ∀ w', (∃ u, w' = ov w u) → PRow w' g n f := by
 rintro w' ⟨u, rfl⟩
 exact h.below (ov_below w u)
theorem PRow.rce {w : World} {g n : Nat} {f : Nat → Psn} (h : PRow w g n f) (ls : List Psn) (hn : ls.length ≤ n) (hl : ∀ i x, ls[i]? = some x → f i = x) : RCellsE psE g 0 ls w := by
 refine ⟨h.lt, fun i x hi j hj => ?_⟩
 have hin : i < n := Nat.lt_of_lt_of_le (List.getElem?_eq_some_iff.1 hi).1 hn
 obtain ⟨h1, h2⟩ := h.cell hin
 rw [hl i x hi] at h1 h2
 rw [Nat.zero_add]
 have hj2 : j = 0 ∨ j = 1 := by omega
 rcases hj2 with rfl | rfl
 ·exact h1
 ·exact h2
theorem prow_load {w : World} {g n : Nat} {f : Nat → Psn} (h : PRow w g n f) {i : Nat} (hi : i < n) {p : Psn} (hp : f i = p) : (Instr.loadAt 68 (.pointer (some ⟨g, i * 2, none⟩))).run Tryz.prog w = .ok (.agg #[.int .i64 p.1, .int .i64 p.2]) w := by
 have hr := h.rce ((List.range n).map f) (by simp) (fun i x hi => by
  rw [List.getElem?_map] at hi
  obtain ⟨y, hy, rfl⟩ := Option.map_eq_some_iff.1 hi
  obtain ⟨h1, h2⟩ := List.getElem?_eq_some_iff.1 hy
  rw [List.getElem_range] at h2
  rw [h2])
 have := hr.load (T := 68) Tryz.isAgg68 (i := i) (x := p) (by rw [List.getElem?_map, List.getElem?_range hi]; exact congrArg some hp)
 rw [Nat.zero_add] at this
 exact this
theorem PRow.own {B g n c : Nat} {ls : List Psn} {w : World} (h : OwnE psE B (.slice (some ⟨g, 0, none⟩) n c) ls w) (hl : n = ls.length) : PRow w g ls.length (fun j => ls.getD j (0, 0)) := by
 have hr := h.rs
 obtain ⟨h1, h2⟩ := h
 rcases h2 with ⟨e, h0⟩ | ⟨g', cap, cur, e, hb, hg, hn, hm, hs, ht⟩
 ·cases e
 ·injection e with e1 e2 e3
  injection e1 with e1
  injection e1 with e1 e4
  subst e1
  refine ⟨cur, hg, fun j hj => ?_⟩
  have hx : ls[j]? = some (ls.getD j (0, 0)) := by rw [List.getD_eq_getElem?_getD, List.getElem?_eq_getElem hj]; rfl
  obtain ⟨x, hxx⟩ : ∃ x, ls.getD j (0, 0) = x := ⟨_, rfl⟩
  rw [hxx] at hx
  have a0 := rowE_at psE ls j x hx 0 (by omega)
  have a1 := rowE_at psE ls j x hx 1 (by omega)
  rw [← ht, List.getElem?_take_of_lt (by omega), Array.getElem?_toList] at a0 a1
  show cur[j * 2]? = some (.int .i64 (ls.getD j (0, 0)).1) ∧ cur[j * 2 + 1]? = some (.int .i64 (ls.getD j (0, 0)).2)
  rw [hxx]
  exact ⟨a0, a1⟩
section
variable {ops : Array Oper} {rest : List Oper} {o : Oper} {a : Act} {w : World} {Q : Exit → Act → World → Prop}
theorem PRow.there {g n : Nat} {f : Nat → Psn} (h : PRow w g n f) {i m : Nat} (hi : i + m ≤ n) : w.there g (i * 2) (m * 2) := fun j hj => by
 refine ⟨?_, h.frozen _⟩
 have hq : i + j / 2 < n := by omega
 obtain ⟨h1, h2⟩ := h.cell hq
 have hj2 : j % 2 = 0 ∨ j % 2 = 1 := by omega
 rcases hj2 with e | e
 ·rw [show i * 2 + j = (i + j / 2) * 2 by omega, h1]; rfl
 ·rw [show i * 2 + j = (i + j / 2) * 2 + 1 by omega, h2]; rfl
theorem atb_setCells {t : TypeId} {g : Nat} : ∀ (vs : List Value) (o : Nat) (w : World) (cur : Array Value), AtB t w g cur → ∃ cur', AtB t (w.setCells g o vs) g cur' ∧ ∀ j, j < o → cur'[j]? = cur[j]?
 | [], _, w, cur, h => ⟨cur, h, fun _ _ => rfl⟩
 | v :: r, o, w, cur, h => by
  obtain ⟨c', h1, h2⟩ := atb_setCells r (o + 1) _ _ (heap_setCell_same w g o cur _ v h)
  refine ⟨c', h1, fun j hj => ?_⟩
  rw [h2 j (by omega), Array.getElem?_setIfInBounds, if_neg (by omega)]
theorem wpList_storePs (hg : o.guard = none) (x y : Operand) (ho : o.op = .store 68 x y) (g j : Nat) (hx : a.eval x = .pointer (some ⟨g, j, none⟩)) (p : Psn) (hy : a.eval y = .agg #[.int .i64 p.1, .int .i64 p.2]) {n : Nat} {f : Nat → Psn} (ht : PRow w g n f) (i : Nat) (hi : i < n) (hj : j = i * 2)
  (h : ∀ w', PRow w' g n (updP f i p) → Chg g w w' → w'.heap.size = w.heap.size → wpList Tryz.prog ops Q rest (a.put o.dst undef) w') : wpList Tryz.prog ops Q (o :: rest) a w := by
 subst hj
 refine wpList_store_mid hg 68 x y ho g _ _ hx hy (ht.there (i := i) (m := 1) (by omega)) (by kernel_rfl) (by simp [Value.oneCell']) ?_
 refine h _ ?_ (setCells_chg _ _ _ _) (sz_setCells _ _ _ _)
 obtain ⟨cur, h1, h2⟩ := ht
 refine ⟨_, heap_setCell_same _ _ _ _ _ _ (heap_setCell_same _ _ _ _ _ _ h1), fun j hj => ?_⟩
 obtain ⟨k1, k2⟩ := h2 j hj
 have b1 : j * 2 < cur.size := (Array.getElem?_eq_some_iff.1 k1).1
 have b2 : j * 2 + 1 < cur.size := (Array.getElem?_eq_some_iff.1 k2).1
 unfold updP
 by_cases e : j = i
 ·subst e
  rw [if_pos rfl]
  constructor
  ·rw [Array.getElem?_setIfInBounds, if_neg (by omega), Array.getElem?_setIfInBounds, if_pos rfl, if_pos b1]
  ·rw [Array.getElem?_setIfInBounds, if_pos rfl, if_pos (by rw [Array.size_setIfInBounds]; exact b2)]
 ·rw [if_neg e]
  constructor
  ·rw [Array.getElem?_setIfInBounds, if_neg (by omega), Array.getElem?_setIfInBounds, if_neg (by omega)]
   exact k1
  ·rw [Array.getElem?_setIfInBounds, if_neg (by omega), Array.getElem?_setIfInBounds, if_neg (by omega)]
   exact k2
/-- The cells from position i on are cleared. -/
theorem wpList_clearPs (hg : o.guard = none) (x : Operand) (ho : o.op = .call { callee := .builtin .clear, args := #[x], argTypes := #[106] }) (g j m c : Nat) (hx : a.eval x = .slice (some ⟨g, j, none⟩) m c) {n : Nat} {f : Nat → Psn} (ht : PRow w g n f) (i : Nat) (hj : j = i * 2) (hn : i + m = n) (hm : 0 < m)
  (h : ∀ w', PRow w' g i f → Chg g w w' → w'.heap.size = w.heap.size → wpList Tryz.prog ops Q rest (a.put o.dst (.tuple #[])) w') : wpList Tryz.prog ops Q (o :: rest) a w := by
 subst hj
 refine wpList_plain hg fun K hK => ?_
 obtain ⟨z, hz, hzc⟩ : ∃ z, (∀ w, (zeroValue 68).run Tryz.prog w = .ok z w) ∧ z.cells = #[.int .i64 0, .int .i64 0] := ⟨_, Tryz.zeroValue68, rfl⟩
 have hth := ht.there (i := i) (m := m) (by omega)
 have hzs : (Builtin.zeroCells z.cells m).toList.length = m * 2 := by rw [Array.length_toList, size_zeroCells, hzc]; rfl
 have hone : ∀ v ∈ (Builtin.zeroCells z.cells m).toList, v.oneCell' = true := fun v hv => by
  rw [hzc] at hv
  unfold Builtin.zeroCells at hv
  simp at hv
  obtain ⟨k, hk, rfl⟩ := hv
  have hk2 : k % 2 = 0 ∨ k % 2 = 1 := by omega
  rcases hk2 with e | e <;> simp [e] <;> rfl
 have hst := run_storeCells_cells (P := Tryz.prog) g (i * 2) (Builtin.zeroCells z.cells m).toList 0 w (fun k hk => by rw [Nat.add_zero]; exact (hth k (by omega)).1) (fun k hk => by rw [Nat.add_zero]; exact (hth k (by omega)).2) hone
 simp only [Nat.add_zero] at hst
 obtain ⟨m', rfl⟩ : ∃ m', m = m' + 1 := ⟨m - 1, by omega⟩
 obtain ⟨dst, op, ty, pos, after, guard⟩ := o
 simp only at ho
 subst ho
 unfold Oper.wp
 have key : ∀ ρ : Operand → Value, ρ x = .slice (some ⟨g, i * 2, none⟩) (m' + 1) c → (execOp ρ { dst, op := .call { callee := .builtin .clear, args := #[x], argTypes := #[106] }, type := ty, pos, after, guard : Oper }).run Tryz.prog w = .ok (.value (.tuple #[])) (w.setCells g (i * 2) (Builtin.zeroCells z.cells (m' + 1)).toList) := fun ρ hρ => by
  have hl : (Builtin.clear_ #[106] ty #[.slice (some ⟨g, i * 2, none⟩) (m' + 1) c]).run Tryz.prog w = .ok (.tuple #[]) (w.setCells g (i * 2) (Builtin.zeroCells z.cells (m' + 1)).toList) := by
   simp [Builtin.clear_, run_underlying Tryz.underlying106, hz, hst]
  simp [go_sem, hρ, hl]
 rw [key a.eval hx]
 refine hK _ _ (h _ ?_ (setCells_chg _ _ _ _) (sz_setCells _ _ _ _))
 obtain ⟨cur, h1, h2⟩ := ht
 obtain ⟨c', k1, k2⟩ := atb_setCells (Builtin.zeroCells z.cells (m' + 1)).toList (i * 2) w cur h1
 refine ⟨c', k1, fun j hj => ?_⟩
 rw [k2 _ (by omega), k2 _ (by omega)]
 exact h2 j (by omega)
end
/- slices.Compact at positions. -/
theorem ddK_same (q : Nat → Psn) : ∀ k, (∀ j, 0 < j → j < k → q j ≠ q (j - 1)) → ddK q k = (List.range k).map q
 | 0, _ => rfl
 | m + 1, h => by
  unfold ddK
  rw [ddK_same q m (fun j h1 h2 => h j h1 (by omega)), if_pos ?_, List.range_succ, List.map_append]
  ·rfl
  ·by_cases h0 : m = 0
   ·exact .inl h0
   ·exact .inr (h m (by omega) (by omega))
theorem dd_at {q : Nat → Psn} {k : Nat} (h : ∀ j, 0 < j → j < k → q j ≠ q (j - 1)) : ∀ j x, (ddK q k)[j]? = some x → q j = x := fun j x hx => by
 rw [ddK_same q k h, List.getElem?_map] at hx
 obtain ⟨y, hy, rfl⟩ := Option.map_eq_some_iff.1 hx
 obtain ⟨h1, h2⟩ := List.getElem?_eq_some_iff.1 hy
 rw [List.getElem_range] at h2
 rw [h2]
theorem dd_len {q : Nat → Psn} {k : Nat} (h : ∀ j, 0 < j → j < k → q j ≠ q (j - 1)) : (ddK q k).length = k := by
 rw [ddK_same q k h, List.length_map, List.length_range]
theorem ddK_eq {q : Nat → Psn} {m : Nat} (h0 : 0 < m) (h : q m = q (m - 1)) : ddK q (m + 1) = ddK q m := by
 show (if _ then _ else _) = _
 rw [if_neg]
 rintro (k | k)
 ·omega
 ·exact k h
theorem ddK_ne {q : Nat → Psn} {m : Nat} (h : q m ≠ q (m - 1)) : ddK q (m + 1) = ddK q m ++ [q m] := by
 show (if _ then _ else _) = _
 rw [if_pos (.inr h)]
theorem eqB_psn {p r : Psn} {b : Bool} (h : eqB p.1 p.2 r.1 r.2 = b) : (b = true → p = r) ∧ (b = false → p ≠ r) := by
 constructor
 ·intro e
  rw [e] at h
  have := of_decide_eq_true h
  exact Prod.ext this.1 this.2
 ·intro e k
  rw [e] at h
  exact of_decide_eq_false h (by rw [k]; exact ⟨rfl, rfl⟩)
theorem P_Compact1 (a : Option Addr) (n c : Nat) (w : World) (hn : n < 2) : Calls Tryz.prog 81 #[.slice a n c] w fun e w' => e = .returned (.slice a n c) ∧ Below w.heap.size w w' := by
 have B := Below.refl w.heap.size w
 have d1 : decide ((n : Int) < 2) = true := decide_eq_true (by omega)
 have d2 : decide (n < 2) = true := decide_eq_true hn
 go_enter Tryz.func81, Tryz.ntmps81
 go_wp2
 go_ret
 exact ⟨rfl, B⟩
set_option maxHeartbeats 4000000 in
theorem P_CompactP (g n c : Nat) (q : Nat → Psn) (w : World) (pr : PRow w g n q) (hn : 2 ≤ n) (hm : n ≤ 100000) (hc : n ≤ c) : Calls Tryz.prog 81 #[.slice (some ⟨g, 0, none⟩) n c] w fun e w' => ∃ f', e = .returned (.slice (some ⟨g, 0, none⟩) (ddK q n).length c) ∧ PRow w' g (ddK q n).length f' ∧ (∀ j x, (ddK q n)[j]? = some x → f' j = x) ∧ Chg g w w' := by
 have B := Exc.refl g w
 have d1 : decide ((n : Int) < 2) = false := decide_eq_false (by omega)
 have d2 : decide (n < 2) = false := decide_eq_false (by omega)
 go_enter Tryz.func81, Tryz.ntmps81
 go_upto_region 1 with fail
 refine wp_region_lit ?_
 try simp only [gelS]
 refine wpList_chunk 1 (by kernel_rfl) ?_
 simp only [takS, Nat.reduceAdd]
 repeat (first | go_big_quiet_skip | (go_big_quiet_want; go_big_quiet_op; go_big_quiet_on))
 refine wpQuiet_nil ?_
 refine wpList_lenS (by first | rfl | simp [Region.wanted, yielded]) rfl Tryz.underlying106 rfl ?_
 simp only [putS]
 refine wpList_chunk 1 (by kernel_rfl) ?_
 simp only [takS, Nat.reduceAdd]
 repeat (first | go_big_quiet_skip | (go_big_quiet_want; go_big_quiet_op; go_big_quiet_on))
 refine wpQuiet_nil ?_
 refine wpList_nil ?_
 go_upto_region 3 with fail
 refine wp_region_lit ?_
 try simp only [gelS]
 refine wpList_chunk 1 (by kernel_rfl) ?_
 simp only [takS, Nat.reduceAdd]
 repeat (first | go_big_quiet_skip | (go_big_quiet_want; go_big_quiet_op; go_big_quiet_on))
 refine wpQuiet_nil ?_
 refine wpList_nil ?_
 go_wp2
 go_loopw [2, 3, 4, 5] (fun _ kv _ _ wr => ∃ m : Nat, m + 1 ≤ n ∧ kv = .int .i64 ((m : Int) + 1) ∧ Hid (∀ j, 0 < j → j < m + 1 → q j ≠ q (j - 1)) ∧ Exc g w.heap.size w wr ∧ PRow wr g n q) (fun _ kv _ _ _ => (n - intOf kv).toNat)
 case atStart => exact ⟨0, by omega, rfl, Lib.hid (fun j h1 h2 => by omega), B, pr⟩
 case round =>
  clear B pr
  obtain ⟨m, hmn, rfl, HND, B, pr⟩ := hrel
  by_cases hk : m + 1 < n
  ·have e1 : decide ((m : Int) + 1 < (n : Int)) = true := decide_eq_true (by omega)
   have hk0 : m < n := by omega
   go_upto_region 4 with fail
   refine wp_region_lit ?_
   try simp only [gelS]
   refine wpList_chunk 2 (by kernel_rfl) ?_
   simp only [takS, Nat.reduceAdd]
   repeat (first | go_big_quiet_skip | (go_big_quiet_want; go_big_quiet_op; go_big_quiet_on))
   refine wpQuiet_nil ?_
   refine wpList_lenS (by first | rfl | simp [Region.wanted, yielded]) rfl Tryz.underlying106 rfl ?_
   simp only [putS]
   refine wpList_chunk 1 (by kernel_rfl) ?_
   simp only [takS, Nat.reduceAdd]
   repeat (first | go_big_quiet_skip | (go_big_quiet_want; go_big_quiet_op; go_big_quiet_on))
   refine wpQuiet_nil ?_
   refine wpList_nil ?_
   obtain ⟨p1, hp1⟩ : ∃ p, q (m + 1) = p := ⟨_, rfl⟩
   obtain ⟨p0, hp0⟩ : ∃ p, q m = p := ⟨_, rfl⟩
   obtain ⟨b, hb⟩ : ∃ b, eqB p1.1 p1.2 p0.1 p0.2 = b := ⟨_, rfl⟩
   have HB := Lib.hid (eqB_psn hb)
   have heql : ∀ w, (binOp .eql 68 (.agg #[.int .i64 p1.1, .int .i64 p1.2]) (.agg #[.int .i64 p0.1, .int .i64 p0.2])).run Tryz.prog w = .ok (.bool b) w := fun w => by rw [← hb]; exact eql_pos _ _ _ _ w
   clear hb
   go_upto_region 6 with fail
   refine wp_region_ov (by kernel_rfl) (by kernel_rfl) ?_
   repeat (first | go_big_quiet_skip | (go_big_quiet_want; first | (refine quiet_loadAny (t := 68) rfl _ _ _ rfl (fun w hw => prow_load (ov_prow pr w hw) hk hp1) (by first | rfl | omega) ?_; simp only [putS]; go_big_quiet_on) | (refine quiet_loadAny (t := 68) rfl _ _ _ rfl (fun w hw => prow_load (ov_prow pr w hw) hk0 hp0) (by first | rfl | omega) ?_; simp only [putS]; go_big_quiet_on) | (go_big_quiet_op; first | go_big_quiet_on | go_big_quiet_call ((fail)))))
   refine wpQuiet_nil ?_
   intro wn hbn
   have hsz := B.size
   have hzn := hbn.size
   replace B := B.trans (hbn.mono B.size)
   try replace pr := pr.below hbn
   cases b with
   | true =>
    have heq10 := HB.out.1 rfl
    have HDU := Lib.hid (show ddK q (m + 2) = ddK q (m + 1) from ddK_eq (by omega) (by rw [Nat.add_sub_cancel, hp1, hp0]; exact heq10))
    have HLN := Lib.hid (dd_len HND.out)
    have HAT := Lib.hid (dd_at HND.out)
    clear heq10 hp1 hp0 HB heql
    obtain ⟨r, hr⟩ : ∃ r, n = m + 1 + r := ⟨n - (m + 1), by omega⟩
    go_upto_region 7 with fail
    go_cut [4] from 26 to 28 (fun s4 wr => (∃ cc, s4 = .slice (some ⟨g, (m + 1) * 2, none⟩) r cc) ∧ Exc g w.heap.size w wr ∧ PRow wr g n q)
    case first =>
     have e2 : decide ((m : Int) + 1 ≤ (n : Int)) = true := decide_eq_true (by omega)
     go_wp2
     go_meet
     refine ⟨⟨c - (m + 1), ?_⟩, B, pr⟩
     first | rfl | (congr 1 <;> first | rfl | omega | (simp; omega)) | (simp; omega)
    case rest =>
     clear B pr
     obtain ⟨⟨cc, rfl⟩, B, pr⟩ := hcut
     go_upto_region 8 with fail
     refine wp_region_lit ?_
     try simp only [gelS]
     refine wpList_chunk 1 (by kernel_rfl) ?_
     simp only [takS, Nat.reduceAdd]
     repeat (first | go_big_quiet_skip | (go_big_quiet_want; go_big_quiet_op; go_big_quiet_on))
     refine wpQuiet_nil ?_
     refine wpList_nil ?_
     go_wp2
     go_loopw [3, 5] (fun iv kv wr => ∃ (i d : Nat) (f : Nat → Psn), d + 1 ≤ r ∧ iv = .int .i64 i ∧ kv = .int .i64 ((d : Int) + 1) ∧ Hid ((ddK q (m + 1 + (d + 1))).length = i) ∧ i < m + 1 + (d + 1) ∧ Hid (∀ j x, (ddK q (m + 1 + (d + 1)))[j]? = some x → f j = x) ∧ Hid (∀ j, m + 1 + d ≤ j → f j = q j) ∧ Exc g w.heap.size w wr ∧ PRow wr g n f) (fun _ kv _ => (r - intOf kv).toNat)
     case atStart => exact ⟨m + 1, 0, q, by omega, by first | rfl | simp, by first | rfl | simp, Lib.hid (by rw [show m + 1 + (0 + 1) = m + 2 by omega, HDU.out]; exact HLN.out), by omega, Lib.hid (by rw [show m + 1 + (0 + 1) = m + 2 by omega, HDU.out]; exact HAT.out), Lib.hid (fun _ _ => rfl), B, pr⟩
     case round =>
      clear B pr
      obtain ⟨i, d, f, hd, rfl, rfl, HLI, hi, HFA, HFB, B, pr⟩ := hrel
      have hin : i < n := by omega
      by_cases hdr : d + 1 < r
      ·have e1 : decide ((d : Int) + 1 < (r : Int)) = true := decide_eq_true (by omega)
       have hk1 : m + 1 + (d + 1) < n := by omega
       have hk0 : m + 1 + d < n := by omega
       have hdr0 : d < r := by omega
       obtain ⟨p1, hp1⟩ : ∃ p, f (m + 1 + (d + 1)) = p := ⟨_, rfl⟩
       obtain ⟨p0, hp0⟩ : ∃ p, f (m + 1 + d) = p := ⟨_, rfl⟩
       have hq1 : q (m + 1 + (d + 1)) = p1 := by rw [← hp1]; exact (HFB.out _ (by omega)).symm
       have hq0 : q (m + 1 + d) = p0 := by rw [← hp0]; exact (HFB.out _ (by omega)).symm
       obtain ⟨b, hb⟩ : ∃ b, eqB p1.1 p1.2 p0.1 p0.2 = b := ⟨_, rfl⟩
       have HB := Lib.hid (eqB_psn hb)
       have HQ1 := Lib.hid hq1
       have HQ0 := Lib.hid hq0
       have hneq : ∀ w, (binOp .neq 68 (.agg #[.int .i64 p1.1, .int .i64 p1.2]) (.agg #[.int .i64 p0.1, .int .i64 p0.2])).run Tryz.prog w = .ok (.bool (!b)) w := fun w => by rw [← hb]; exact neq_pos _ _ _ _ w
       clear hb hq1 hq0
       go_upto_region 9 with fail
       refine wp_region_lit ?_
       try simp only [gelS]
       refine wpList_chunk 2 (by kernel_rfl) ?_
       simp only [takS, Nat.reduceAdd]
       repeat (first | go_big_quiet_skip | (go_big_quiet_want; go_big_quiet_op; go_big_quiet_on))
       refine wpQuiet_nil ?_
       refine wpList_lenS (by first | rfl | simp [Region.wanted, yielded]) rfl Tryz.underlying106 rfl ?_
       simp only [putS]
       refine wpList_chunk 1 (by kernel_rfl) ?_
       simp only [takS, Nat.reduceAdd]
       repeat (first | go_big_quiet_skip | (go_big_quiet_want; go_big_quiet_op; go_big_quiet_on))
       refine wpQuiet_nil ?_
       refine wpList_nil ?_
       go_upto_region 11 with fail
       refine wp_region_ov (by kernel_rfl) (by kernel_rfl) ?_
       repeat (first | go_big_quiet_skip | (go_big_quiet_want; first | (refine quiet_loadAny (t := 68) rfl _ _ _ rfl (fun w hw => prow_load (ov_prow pr w hw) hk1 hp1) (by first | rfl | omega) ?_; simp only [putS]; go_big_quiet_on) | (refine quiet_loadAny (t := 68) rfl _ _ _ rfl (fun w hw => prow_load (ov_prow pr w hw) hk0 hp0) (by first | rfl | omega) ?_; simp only [putS]; go_big_quiet_on) | (go_big_quiet_op; first | go_big_quiet_on | go_big_quiet_call ((fail)))))
       refine wpQuiet_nil ?_
       intro wn hbn
       have hsz := B.size
       have hzn := hbn.size
       replace B := B.trans (hbn.mono B.size)
       try replace pr := pr.below hbn
       cases b with
       | true =>
        have he := HB.out.1 rfl
        have HD2 := Lib.hid (show ddK q (m + 1 + (d + 1 + 1)) = ddK q (m + 1 + (d + 1)) from ddK_eq (m := m + 1 + (d + 1)) (by omega) (by rw [show m + 1 + (d + 1) - 1 = m + 1 + d by omega, HQ1.out, HQ0.out]; exact he))
        clear he HB hp1 hp0
        go_upto_region 10 with fail
        refine wp_region_lit ?_
        try simp only [gelS]
        refine wpList_chunk 3 (by kernel_rfl) ?_
        simp only [takS, Nat.reduceAdd]
        repeat (first | go_big_quiet_skip | (go_big_quiet_want; go_big_quiet_op; go_big_quiet_on))
        refine wpQuiet_nil ?_
        refine wpList_nil ?_
        go_wp2
        go_roundw
        case rel => exact ⟨i, d + 1, f, by omega, by go_num, by go_num, Lib.hid (by rw [HD2.out]; exact HLI.out), by omega, Lib.hid (by rw [HD2.out]; exact HFA.out), Lib.hid (fun j hj => HFB.out j (by omega)), B, pr⟩
        case measure => simp [intOf]; omega
       | false =>
        have hne := HB.out.2 rfl
        have HD2 := Lib.hid (show ddK q (m + 1 + (d + 1 + 1)) = ddK q (m + 1 + (d + 1)) ++ [p1] from by
         have := ddK_ne (q := q) (m := m + 1 + (d + 1)) (by rw [show m + 1 + (d + 1) - 1 = m + 1 + d by omega, HQ1.out, HQ0.out]; exact hne)
         rw [HQ1.out] at this
         exact this)
        clear hne HB
        go_upto_region 12 with fail
        refine wp_region_lit ?_
        try simp only [gelS]
        refine wpList_chunk 7 (by kernel_rfl) ?_
        simp only [takS, Nat.reduceAdd]
        repeat (first | go_big_quiet_skip | (go_big_quiet_want; first | (refine quiet_loadAny (t := 68) rfl _ _ _ rfl (fun w hw => prow_load (ov_prow pr w hw) hk1 hp1) (by first | rfl | omega) ?_; simp only [putS]; go_big_quiet_on) | (go_big_quiet_op; go_big_quiet_on)))
        refine wpQuiet_nil ?_
        (refine wpList_storePs rfl _ _ rfl _ _ rfl p1 rfl pr i hin (by first | rfl | omega) ?_; clear pr; intro wn ht hcn hzn; have hsz := B.size; replace hzn := Nat.le_of_eq hzn.symm; replace B := Exc.chg B hcn; have pr := ht; clear ht; simp only [putS])
        refine wpList_nil ?_
        clear hp1 hp0
        go_upto_region 13 with fail
        refine wp_region_lit ?_
        try simp only [gelS]
        refine wpList_chunk 3 (by kernel_rfl) ?_
        simp only [takS, Nat.reduceAdd]
        repeat (first | go_big_quiet_skip | (go_big_quiet_want; go_big_quiet_op; go_big_quiet_on))
        refine wpQuiet_nil ?_
        refine wpList_nil ?_
        go_upto_region 10 with fail
        refine wp_region_lit ?_
        try simp only [gelS]
        refine wpList_chunk 3 (by kernel_rfl) ?_
        simp only [takS, Nat.reduceAdd]
        repeat (first | go_big_quiet_skip | (go_big_quiet_want; go_big_quiet_op; go_big_quiet_on))
        refine wpQuiet_nil ?_
        refine wpList_nil ?_
        go_wp2
        go_roundw
        case rel =>
         refine ⟨i + 1, d + 1, updP f i p1, by omega, by go_num, by go_num, Lib.hid (by rw [HD2.out, List.length_append, HLI.out]; rfl), by omega, Lib.hid (fun j x hx => ?_), Lib.hid (fun j hj => ?_), B, pr⟩
         ·rw [HD2.out] at hx
          unfold updP
          by_cases hji : j = i
          ·rw [if_pos hji]
           rw [hji, ← HLI.out, List.getElem?_append_right (Nat.le_refl _), Nat.sub_self] at hx
           exact Option.some.inj hx
          ·rw [if_neg hji]
           by_cases hlt : j < i
           ·rw [List.getElem?_append_left (by rw [HLI.out]; exact hlt)] at hx
            exact HFA.out j x hx
           ·rw [List.getElem?_eq_none (by rw [List.length_append, HLI.out]; simp; omega)] at hx
            cases hx
         ·unfold updP
          rw [if_neg (by omega)]
          exact HFB.out j (by omega)
        case measure => simp [intOf]; omega
      ·have e1 : decide ((d : Int) + 1 < (r : Int)) = false := decide_eq_false (by omega)
       have hnn : m + 1 + (d + 1) = n := by omega
       have hLI := HLI.out
       have hFA := HFA.out
       rw [hnn] at hLI hFA
       have HLI2 := Lib.hid hLI
       have HFA2 := Lib.hid hFA
       have e2 : decide ((i : Int) ≤ (n : Int)) = true := decide_eq_true (by omega)
       have e3 : decide (i ≤ n) = true := decide_eq_true (by omega)
       have e4 : decide (i ≤ c) = true := decide_eq_true (by omega)
       clear hLI hFA hnn HLI HFA HFB
       go_upto_region 9 with fail
       refine wp_region_lit ?_
       try simp only [gelS]
       refine wpList_chunk 2 (by kernel_rfl) ?_
       simp only [takS, Nat.reduceAdd]
       repeat (first | go_big_quiet_skip | (go_big_quiet_want; go_big_quiet_op; go_big_quiet_on))
       refine wpQuiet_nil ?_
       refine wpList_lenS (by first | rfl | simp [Region.wanted, yielded]) rfl Tryz.underlying106 rfl ?_
       simp only [putS]
       refine wpList_chunk 1 (by kernel_rfl) ?_
       simp only [takS, Nat.reduceAdd]
       repeat (first | go_big_quiet_skip | (go_big_quiet_want; go_big_quiet_op; go_big_quiet_on))
       refine wpQuiet_nil ?_
       refine wpList_nil ?_
       go_upto_region 14 with fail
       refine wp_region_lit ?_
       try simp only [gelS]
       refine wpList_chunk 3 (by kernel_rfl) ?_
       simp only [takS, Nat.reduceAdd]
       repeat (first | go_big_quiet_skip | (go_big_quiet_want; go_big_quiet_op; go_big_quiet_on))
       refine wpQuiet_nil ?_
       (refine wpList_clearPs rfl _ rfl g _ _ _ rfl pr i (by first | rfl | omega | (simp; omega)) (by first | rfl | omega | (simp; omega)) (by first | omega | (simp; omega)) ?_; clear pr; intro wn ht hcn hzn; have hsz := B.size; replace hzn := Nat.le_of_eq hzn.symm; replace B := Exc.chg B hcn; have pr := ht; clear ht; simp only [putS])
       refine wpList_nil ?_
       go_upto_region 15 with fail
       refine wp_region_lit ?_
       try simp only [gelS]
       refine wpList_chunk 4 (by kernel_rfl) ?_
       simp only [takS, Nat.reduceAdd]
       repeat (first | go_big_quiet_skip | (go_big_quiet_want; go_big_quiet_op; go_big_quiet_on))
       refine wpQuiet_nil ?_
       refine wpList_nil ?_
       go_wp2
       go_ret
       rw [HLI2.out]
       exact ⟨f, by first | rfl | simp, pr, HFA2.out, B.toChg⟩
   | false =>
    have hne := HB.out.2 rfl
    have HND2 := Lib.hid (show ∀ j, 0 < j → j < m + 1 + 1 → q j ≠ q (j - 1) from fun j h1 h2 => by
     by_cases hj : j = m + 1
     ·rw [hj, Nat.add_sub_cancel, hp1, hp0]; exact hne
     ·exact HND.out j h1 (by omega))
    clear hne hp1 hp0 HB
    go_upto_region 5 with fail
    refine wp_region_lit ?_
    try simp only [gelS]
    refine wpList_chunk 3 (by kernel_rfl) ?_
    simp only [takS, Nat.reduceAdd]
    repeat (first | go_big_quiet_skip | (go_big_quiet_want; go_big_quiet_op; go_big_quiet_on))
    refine wpQuiet_nil ?_
    refine wpList_nil ?_
    go_wp2
    go_roundw
    case rel => exact ⟨m + 1, by omega, by go_num, HND2, B, pr⟩
    case measure => simp [intOf]; omega
  ·have e1 : decide ((m : Int) + 1 < (n : Int)) = false := decide_eq_false (by omega)
   have hmn2 : m + 1 = n := by omega
   have hND := HND.out
   rw [hmn2] at hND
   have HLEN := Lib.hid (dd_len hND)
   have HAT := Lib.hid (dd_at hND)
   clear hND hmn2
   go_upto_region 4 with fail
   refine wp_region_lit ?_
   try simp only [gelS]
   refine wpList_chunk 2 (by kernel_rfl) ?_
   simp only [takS, Nat.reduceAdd]
   repeat (first | go_big_quiet_skip | (go_big_quiet_want; go_big_quiet_op; go_big_quiet_on))
   refine wpQuiet_nil ?_
   refine wpList_lenS (by first | rfl | simp [Region.wanted, yielded]) rfl Tryz.underlying106 rfl ?_
   simp only [putS]
   refine wpList_chunk 1 (by kernel_rfl) ?_
   simp only [takS, Nat.reduceAdd]
   repeat (first | go_big_quiet_skip | (go_big_quiet_want; go_big_quiet_op; go_big_quiet_on))
   refine wpQuiet_nil ?_
   refine wpList_nil ?_
   go_upto_region 16 with fail
   refine wp_region_lit ?_
   try simp only [gelS]
   refine wpList_chunk 2 (by kernel_rfl) ?_
   simp only [takS, Nat.reduceAdd]
   repeat (first | go_big_quiet_skip | (go_big_quiet_want; go_big_quiet_op; go_big_quiet_on))
   refine wpQuiet_nil ?_
   refine wpList_nil ?_
   go_wp2
   go_ret
   rw [HLEN.out]
   exact ⟨q, rfl, pr, HAT.out, B.toChg⟩
end Go.Proofs.YtamgpfblhlfhaaaGreat
/- slices.SortFunc at positions, in the program's order. -/
namespace Go.Proofs.YtamgpfblhlfhaaaGreat
open Go.RowKit Go.Shelf Pl
open Go.Sort
set_option linter.unusedVariables false
set_option linter.unusedSimpArgs false
set_option maxRecDepth 20000
def renS : Go.Shelf.Ren := ⟨fun | 6 => 79 | 14 => 123 | 15 => 124 | 20 => 131 | 21 => 132 | 22 => 133 | 23 => 134 | 24 => 135 | 25 => 136 | 26 => 137 | 27 => 138 | 28 => 139 | 29 => 140 | 46 => 142 | 47 => 143 | 48 => 144 | 49 => 145 | 50 => 146 | 57 => 147 | n => n, fun | 22 => 106 | 24 => 68 | 25 => 109 | 3 => 3 | 39 => 145 | 0 => 0 | 4 => 4 | 46 => 153 | 45 => 152 | 50 => 133 | 53 => 159 | 55 => 161 | 66 => 163 | 70 => 167 | 5 => 5 | 9 => 9 | 76 => 169 | 77 => 123 | n => n, fun | n => n⟩
theorem layS : SlLaysF0.n6 Tryz.prog renS := {
 mixed := by kernel_rfl
 f6 := ⟨"slices.SortFunc[[]gouache/api.TilePos,gouache/api.TilePos]", by decide +kernel, Tryz.func79.trans (congrArg some (by kernel_rfl))⟩
 f14 := ⟨"slices.pdqsortCmpFunc[gouache/api.TilePos]", by decide +kernel, Tryz.func123.trans (congrArg some (by kernel_rfl))⟩
 f15 := Tryz.func124.trans (congrArg some (by kernel_rfl))
 f20 := ⟨"slices.insertionSortCmpFunc[gouache/api.TilePos]", by decide +kernel, Tryz.func131.trans (congrArg some (by kernel_rfl))⟩
 f21 := ⟨"slices.heapSortCmpFunc[gouache/api.TilePos]", by decide +kernel, Tryz.func132.trans (congrArg some (by kernel_rfl))⟩
 f22 := ⟨"slices.breakPatternsCmpFunc[gouache/api.TilePos]", by decide +kernel, Tryz.func133.trans (congrArg some (by kernel_rfl))⟩
 f23 := ⟨"slices.choosePivotCmpFunc[gouache/api.TilePos]", by decide +kernel, Tryz.func134.trans (congrArg some (by kernel_rfl))⟩
 f24 := ⟨"slices.reverseRangeCmpFunc[gouache/api.TilePos]", by decide +kernel, Tryz.func135.trans (congrArg some (by kernel_rfl))⟩
 f25 := ⟨"slices.partialInsertionSortCmpFunc[gouache/api.TilePos]", by decide +kernel, Tryz.func136.trans (congrArg some (by kernel_rfl))⟩
 f26 := ⟨"slices.partitionEqualCmpFunc[gouache/api.TilePos]", by decide +kernel, Tryz.func137.trans (congrArg some (by kernel_rfl))⟩
 f27 := ⟨"slices.partitionCmpFunc[gouache/api.TilePos]", by decide +kernel, Tryz.func138.trans (congrArg some (by kernel_rfl))⟩
 f28 := Tryz.func139.trans (congrArg some (by kernel_rfl))
 f29 := Tryz.func140.trans (congrArg some (by kernel_rfl))
 f46 := ⟨"slices.siftDownCmpFunc[gouache/api.TilePos]", by decide +kernel, Tryz.func142.trans (congrArg some (by kernel_rfl))⟩
 f47 := Tryz.func143.trans (congrArg some (by kernel_rfl))
 f48 := Tryz.func144.trans (congrArg some (by kernel_rfl))
 f49 := ⟨"slices.medianAdjacentCmpFunc[gouache/api.TilePos]", by decide +kernel, Tryz.func145.trans (congrArg some (by kernel_rfl))⟩
 f50 := ⟨"slices.medianCmpFunc[gouache/api.TilePos]", by decide +kernel, Tryz.func146.trans (congrArg some (by kernel_rfl))⟩
 f57 := ⟨"slices.order2CmpFunc[gouache/api.TilePos]", by decide +kernel, Tryz.func147.trans (congrArg some (by kernel_rfl))⟩
 t0 := Tryz.underlying0
 a0 := Tryz.isAgg0
 z0 := Tryz.sizeOf0
 v0 := Tryz.zeroValue0
 t3 := Tryz.underlying3
 a3 := Tryz.isAgg3
 z3 := Tryz.sizeOf3
 v3 := Tryz.zeroValue3
 t4 := Tryz.underlying4
 a4 := Tryz.isAgg4
 z4 := Tryz.sizeOf4
 v4 := Tryz.zeroValue4
 t5 := Tryz.underlying5
 a5 := Tryz.isAgg5
 z5 := Tryz.sizeOf5
 v5 := Tryz.zeroValue5
 t9 := Tryz.underlying9
 a9 := Tryz.isAgg9
 z9 := Tryz.sizeOf9
 v9 := Tryz.zeroValue9
 t22 := Tryz.underlying106
 a22 := Tryz.isAgg106
 z22 := Tryz.sizeOf106
 v22 := Tryz.zeroValue106
 t25 := Tryz.underlying109
 a25 := Tryz.isAgg109
 z25 := Tryz.sizeOf109
 v25 := Tryz.zeroValue109
 t39 := Tryz.underlying145
 a39 := Tryz.isAgg145
 z39 := Tryz.sizeOf145
 v39 := Tryz.zeroValue145
 t45 := Tryz.underlying152
 a45 := Tryz.isAgg152
 z45 := Tryz.sizeOf152
 v45 := Tryz.zeroValue152
 t46 := Tryz.underlying153
 a46 := Tryz.isAgg153
 z46 := Tryz.sizeOf153
 v46 := Tryz.zeroValue153
 t50 := Tryz.underlying133
 a50 := Tryz.isAgg133
 z50 := Tryz.sizeOf133
 v50 := Tryz.zeroValue133
 t53 := Tryz.underlying159
 a53 := Tryz.isAgg159
 z53 := Tryz.sizeOf159
 v53 := Tryz.zeroValue159
 t55 := Tryz.underlying161
 a55 := Tryz.isAgg161
 z55 := Tryz.sizeOf161
 v55 := Tryz.zeroValue161
 t66 := Tryz.underlying163
 a66 := Tryz.isAgg163
 z66 := Tryz.sizeOf163
 v66 := Tryz.zeroValue163
 t70 := Tryz.underlying167
 a70 := Tryz.isAgg167
 z70 := Tryz.sizeOf167
 v70 := Tryz.zeroValue167
 t76 := Tryz.underlying169
 a76 := Tryz.isAgg169
 z76 := Tryz.sizeOf169
 v76 := Tryz.zeroValue169
 t77 := Tryz.underlying123
 a77 := Tryz.isAgg123
 z77 := Tryz.sizeOf123
 v77 := Tryz.zeroValue123 }
/-- Positions that do not run over. -/
def BP := {p : Psn // -1000000 ≤ p.1 ∧ p.1 ≤ 1000000 ∧ -1000000 ≤ p.2 ∧ p.2 ≤ 1000000}
instance : Inhabited BP := ⟨⟨(0, 0), by decide⟩⟩
def encB (x : BP) : List Value := [.int .i64 x.1.1, .int .i64 x.1.2]
def cfB (x y : BP) : Int := if x.1.2 ≠ y.1.2 then x.1.2 - y.1.2 else x.1.1 - y.1.1
theorem ltB (x y : BP) : ltOf cfB x y = ltQ x.1 y.1 := by
 rw [Bool.eq_iff_iff, ltQ_iff]
 unfold ltOf cfB
 rw [decide_eq_true_iff]
 split <;> omega
theorem swoB : SWO (ltOf cfB) where
 irrefl x := by rw [ltB]; exact ltQ_irr _
 trans x y z h1 h2 := by rw [ltB] at *; exact ltQ_trans h1 h2
 ntrans x y z h1 h2 := by
  rw [ltB] at *
  rw [← Bool.not_eq_true, ltQ_iff] at *
  omega
theorem totB (x y : BP) (h1 : ltOf cfB x y = false) (h2 : ltOf cfB y x = false) : x = y := by
 rw [ltB] at h1 h2
 rcases ltQ_tri x.1 y.1 with k | k | k
 ·rw [k] at h1; cases h1
 ·exact Subtype.ext k
 ·rw [k] at h2; cases h2
set_option maxHeartbeats 2000000 in
theorem P_cmpB (x y : BP) (W : World) : Calls Tryz.prog 80 #[.agg #[.int .i64 x.1.1, .int .i64 x.1.2], .agg #[.int .i64 y.1.1, .int .i64 y.1.2]] W fun e w' => e = .returned (.int .i64 (cfB x y)) ∧ ∃ q os', w' = grow (W.drewN q) os' := by
 obtain ⟨⟨x1, x2⟩, a1, a2, a3, a4⟩ := x
 obtain ⟨⟨y1, y2⟩, b1, b2, b3, b4⟩ := y
 simp only at a1 a2 a3 a4 b1 b2 b3 b4
 by_cases h : x2 = y2
 ·have e : cfB ⟨(x1, x2), a1, a2, a3, a4⟩ ⟨(y1, y2), b1, b2, b3, b4⟩ = x1 - y1 := by
   unfold cfB
   rw [if_neg (fun k => k h)]
  rw [e]
  have d1 : (x2 != y2) = false := by simp [h]
  have d2 : decide (x2 = y2) = true := decide_eq_true h
  clear h e
  go_enter Tryz.func80, Tryz.ntmps80
  go_wp2
  go_ret
  exact ⟨rfl, 0, _, by rw [alloc_eq_grow, alloc_eq_grow, grow_grow]; rfl⟩
 ·have e : cfB ⟨(x1, x2), a1, a2, a3, a4⟩ ⟨(y1, y2), b1, b2, b3, b4⟩ = x2 - y2 := by
   unfold cfB
   rw [if_pos h]
  rw [e]
  have d1 : (x2 != y2) = true := by simp [h]
  have d2 : decide (x2 = y2) = false := decide_eq_false h
  clear h e
  go_enter Tryz.func80, Tryz.ntmps80
  go_wp2
  go_ret
  exact ⟨rfl, 0, _, by rw [alloc_eq_grow, alloc_eq_grow, grow_grow]; rfl⟩
/- slices.SortFunc at positions: the contract. -/
def bndP (p : Psn) : Prop := -1000000 ≤ p.1 ∧ p.1 ≤ 1000000 ∧ -1000000 ≤ p.2 ∧ p.2 ≤ 1000000
def mkB (p : Psn) (h : bndP p) : BP := ⟨p, h⟩
def bpOf (q : Nat → Psn) (n : Nat) (hb : ∀ j, j < n → bndP (q j)) : Array BP := Array.ofFn fun j : Fin n => mkB (q j.1) (hb j.1 j.2)
theorem bpOf_size (q : Nat → Psn) (n : Nat) (hb : ∀ j, j < n → bndP (q j)) : (bpOf q n hb).size = n := by unfold bpOf; simp
theorem bpOf_at (q : Nat → Psn) (n : Nat) (hb : ∀ j, j < n → bndP (q j)) {j : Nat} (hj : j < n) : ((bpOf q n hb)[j]!).1 = q j := by
 rw [getElem!_pos _ j (by rw [bpOf_size]; exact hj)]
 unfold bpOf
 rw [Array.getElem_ofFn]
 rfl
theorem holdsP {w : World} {g n : Nat} {q : Nat → Psn} (pr : PRow w g n q) (hb : ∀ j, j < n → bndP (q j)) : HoldsK encB 2 w g 0 (bpOf q n hb) := by
 intro t ht
 rw [size_flatK, bpOf_size] at ht
 have h2 : t / 2 < n := by omega
 obtain ⟨c1, c2⟩ := pr.cell h2
 refine ⟨?_, pr.frozen _⟩
 rw [get_flatK _ _ _ _ (by rw [bpOf_size]; exact ht), Nat.zero_add]
 have hm : t % 2 = 0 ∨ t % 2 = 1 := by omega
 have hv := bpOf_at q n hb h2
 rcases hm with e | e
 ·rw [e]
  have e0 : t = t / 2 * 2 := by omega
  rw [e0, c1, ← e0]
  show _ = some (Value.int .i64 ((bpOf q n hb)[t / 2]!).1.1)
  rw [hv]
 ·rw [e]
  have e0 : t = t / 2 * 2 + 1 := by omega
  rw [e0, c2, ← e0]
  show _ = some (Value.int .i64 ((bpOf q n hb)[t / 2]!).1.2)
  rw [hv]
theorem sortW_chg (w : World) (g m : Nat) (d : Array BP) (os : Array Obj) (hg : g < w.heap.size) : Chg g w (sortWorldK encB 2 w g 0 m d os) := by
 refine ⟨rfl, rfl, rfl, size_sortWorldK_c encB 2 w g 0 m d os, fun k hk hne => ?_⟩
 show ((w.heap.modify g _) ++ os)[k]? = w.heap[k]?
 rw [Array.getElem?_append_left (by rw [Array.size_modify]; exact hk), Array.getElem?_modify, if_neg (fun e => hne e.symm)]
theorem sortW_at {w : World} {g m : Nat} {d : Array BP} {os : Array Obj} {cur : Array Value} (h : AtB 68 w g cur) : ∃ c', AtB 68 (sortWorldK encB 2 w g 0 m d os) g c' := by
 refine ⟨putCells id 0 (flatK encB 2 d) cur, ?_⟩
 unfold AtB
 show ((w.heap.modify g _) ++ os)[g]? = _
 have hh : w.heap[g]? = some (.cells cur 68 (0, 0)) := h
 rw [Array.getElem?_append_left (by rw [Array.size_modify]; exact h.lt), Array.getElem?_modify, if_pos rfl, hh]
 rfl
/-- The positions in order. -/
theorem P_SortPos (g n c : Nat) (q : Nat → Psn) (w : World) (pr : PRow w g n q) (hn : n ≤ 1000000) (hb : ∀ j, j < n → bndP (q j)) : Calls Tryz.prog 79 #[.slice (some ⟨g, 0, none⟩) n c, .func (.func 80) #[] #[]] w fun e w' => e = .returned (.tuple #[]) ∧ ∃ q' : Nat → Psn, PRow w' g n q' ∧ (∀ i j, i < j → j < n → ltQ (q' j) (q' i) = false) ∧ (∀ p, (∃ j, j < n ∧ q' j = p) ↔ ∃ j, j < n ∧ q j = p) ∧ Chg g w w' := by
 have eg : ∀ args w, (callFunc 80 args).run Tryz.prog w = .ok (.enter 80 args) w := enters_of Tryz.func80 (by kernel_rfl) rfl
 have hcon := AnyQ.slices_SortFunc_total layS 2 Tryz.isAgg68 Tryz.sizeOf68 encB (fun _ => rfl) (fun x v hv => by simp [encB] at hv; rcases hv with rfl | rfl <;> rfl) cfB swoB 80 #[] g 0 c (bpOf q n hb) w eg (fun _ _ _ _ x y => P_cmpB x y _) (holdsP pr hb) pr.lt (by rw [bpOf_size]; omega) totB
 rw [bpOf_size] at hcon
 refine Calls.mono hcon ?_
 rintro e w' ⟨he, m, os, hw⟩
 refine ⟨he, ?_⟩
 obtain ⟨L, hL⟩ : ∃ L, (bpOf q n hb).toList.mergeSort (fun x y => !(ltOf cfB) y x) = L := ⟨_, rfl⟩
 rw [hL] at hw
 have hperm : L.Perm (bpOf q n hb).toList := hL ▸ List.mergeSort_perm _ _
 have hlen : L.length = n := by rw [hperm.length_eq, Array.length_toList, bpOf_size]
 have hsrt : L.Pairwise fun x y => ltQ y.1 x.1 = false := by
  have := List.pairwise_mergeSort (le := fun x y : BP => !(ltOf cfB) y x) (fun x y z h1 h2 => by
   simp only [Bool.not_eq_true'] at h1 h2 ⊢
   exact swoB.ntrans _ _ _ h2 h1) (fun x y => by
   rw [ltB, ltB, Bool.or_eq_true, Bool.not_eq_true', Bool.not_eq_true']
   rcases ltQ_tri x.1 y.1 with k | k | k
   ·left
    rw [← Bool.not_eq_true]
    intro k2
    have := ltQ_trans k k2
    rw [ltQ_irr] at this
    cases this
   ·left; rw [k]; exact ltQ_irr _
   ·right
    rw [← Bool.not_eq_true]
    intro k2
    have := ltQ_trans k k2
    rw [ltQ_irr] at this
    cases this) (bpOf q n hb).toList
  rw [hL] at this
  refine this.imp fun {x y} h => ?_
  rw [ltB] at h
  simpa using h
 obtain ⟨cur, ha, hc⟩ := pr
 have hlt : g < w.heap.size := ha.lt
 obtain ⟨c', ha'⟩ := sortW_at (m := m) (d := L.toArray) (os := os) ha
 have hH := holdsK_sortWorldK_c encB 2 w g 0 (bpOf q n hb) L.toArray m os (holdsP ⟨cur, ha, hc⟩ hb) hlt (by rw [List.size_toArray, hlen, bpOf_size])
 rw [← hw] at ha' hH
 have hg! : ∀ j, j < n → L.toArray[j]! = L[j]! := fun j hj => by
  rw [getElem!_pos _ j (by rw [List.size_toArray]; omega), getElem!_pos _ j (by omega)]
  rfl
 refine ⟨fun j => (L[j]!).1, ⟨c', ha', fun j hj => ?_⟩, fun i j hij hj => ?_, fun p => ?_, hw ▸ sortW_chg w g m _ os hlt⟩
 ·have k0 := HoldsK.cells (enc := encB) hH (fun _ => rfl) (i := j) (by rw [List.size_toArray]; omega) 0 _ rfl
  have k1 := HoldsK.cells (enc := encB) hH (fun _ => rfl) (i := j) (by rw [List.size_toArray]; omega) 1 _ rfl
  rw [Addr.add_lit] at k0 k1
  rw [hg! j hj] at k0 k1
  rw [(cells_of_block ha').1] at k0 k1
  rw [Nat.zero_add] at k0 k1
  exact ⟨k0, k1⟩
 ·have := List.pairwise_iff_getElem.1 hsrt i j (by omega) (by omega) hij
  show ltQ (L[j]!).1 (L[i]!).1 = false
  rw [getElem!_pos _ j (by omega), getElem!_pos _ i (by omega)]
  exact this
 ·have hmem : (∃ j, j < n ∧ (L[j]!).1 = p) ↔ ∃ x ∈ L, x.1 = p := by
   constructor
   ·rintro ⟨j, hj, e⟩
    rw [getElem!_pos _ j (by omega)] at e
    exact ⟨_, List.getElem_mem _, e⟩
   ·rintro ⟨x, hx, e⟩
    obtain ⟨j, hj, ej⟩ := List.getElem_of_mem hx
    exact ⟨j, by omega, by rw [getElem!_pos _ j hj, ej, e]⟩
  rw [hmem]
  constructor
  ·rintro ⟨x, hx, e⟩
   obtain ⟨j, hj, ej⟩ := List.getElem_of_mem (hperm.mem_iff.1 hx)
   rw [Array.length_toList, bpOf_size] at hj
   refine ⟨j, hj, ?_⟩
   rw [← e, ← ej, ← bpOf_at q n hb hj, getElem!_pos _ j (by rw [bpOf_size]; exact hj)]
   rfl
  ·rintro ⟨j, hj, e⟩
   refine ⟨(bpOf q n hb)[j]!, hperm.mem_iff.2 ?_, by rw [bpOf_at q n hb hj, e]⟩
   rw [getElem!_pos _ j (by rw [bpOf_size]; exact hj)]
   exact Array.getElem_mem_toList _
end Go.Proofs.YtamgpfblhlfhaaaGreat
/- The program's combined: its parts. -/
namespace Go.Proofs.YtamgpfblhlfhaaaGreat
open Go.RowKit Go.Shelf Pl
set_option linter.unusedVariables false
set_option linter.unusedSimpArgs false
set_option maxRecDepth 20000
theorem OwnE.ownlt {α : Type} {k : Nat} {T ST : TypeId} {E : Elt α k T ST} {B : Nat} {v : Value} {ls : List α} {w : World} (h : OwnE E B v ls w) : ∀ g, v.ownBlock = some g → g < w.heap.size := fun g hg => (World.ownsRow.lt h g hg).2
/-- A slice of positions in block g, or of none. -/
def PL (g : Nat) (ap : Option Addr) (n : Nat) (q : Nat → Psn) (w : World) : Prop := g < w.heap.size ∧ (n = 0 ∨ (ap = some ⟨g, 0, none⟩ ∧ PRow w g n q))
theorem PL.of_eq {g n : Nat} {ap : Option Addr} {q : Nat → Psn} {w w' : World} (h : PL g ap n q w) (e : w'.heap[g]? = w.heap[g]?) : PL g ap n q w' := by
 obtain ⟨h1, h2⟩ := h
 refine ⟨?_, ?_⟩
 ·rcases Nat.lt_or_ge g w'.heap.size with k | k
  ·exact k
  ·rw [Array.getElem?_eq_none k, Array.getElem?_eq_getElem h1] at e
   cases e
 ·rcases h2 with h2 | ⟨h2, h3⟩
  ·exact .inl h2
  ·exact .inr ⟨h2, h3.of_eq e⟩
theorem PL.lt {g n : Nat} {ap : Option Addr} {q : Nat → Psn} {w : World} (h : PL g ap n q w) : g < w.heap.size := h.1
theorem PL.below {g n : Nat} {ap : Option Addr} {q : Nat → Psn} {w w' : World} (h : PL g ap n q w) (e : Below w.heap.size w w') : PL g ap n q w' := h.of_eq (e.block _ h.lt)
/-- The positions gathered. -/
theorem pl_own {B c gx : Nat} {ap : Option Addr} {ls : List Psn} {w : World} (h : OwnE psE B (.slice ap ls.length c) ls w) (hx : gx < w.heap.size) : ∃ g, PL g ap ls.length (fun j => ls.getD j (0, 0)) w ∧ (ls.length = 0 → g = gx) ∧ (0 < ls.length → B ≤ g) := by
 by_cases h0 : ls.length = 0
 ·exact ⟨gx, ⟨hx, .inl h0⟩, fun _ => rfl, fun k => by omega⟩
 ·obtain ⟨g, o, rfl, _⟩ := h.rs.at (by omega)
  have ho : o = 0 := by
   obtain ⟨_, h2⟩ := h
   rcases h2 with ⟨e, _⟩ | ⟨g', cap, cur, e, _⟩
   ·cases e
   ·injection e with e1
    injection e1 with e1
    injection e1 with _ e2
  subst ho
  exact ⟨g, ⟨(World.ownsRow.lt h g rfl).2, .inr ⟨rfl, PRow.own h rfl⟩⟩, fun k => absurd k h0, fun _ => (World.ownsRow.lt h g rfl).1⟩
theorem P_SortU (b0 g n c : Nat) (ap : Option Addr) (q : Nat → Psn) (w : World) (h : PL g ap n q w) (hn : n ≤ 1000000) (hb : ∀ j, j < n → bndP (q j)) (hb0 : b0 ≤ w.heap.size) (hg0 : 0 < n → b0 ≤ g) : Calls Tryz.prog 79 #[.slice ap n c, .func (.func 80) #[] #[]] w fun e w' => e = .returned (.tuple #[]) ∧ ∃ q' : Nat → Psn, PL g ap n q' w' ∧ (∀ i j, i < j → j < n → ltQ (q' j) (q' i) = false) ∧ (∀ p, (∃ j, j < n ∧ q' j = p) ↔ ∃ j, j < n ∧ q j = p) ∧ Below b0 w w' := by
 obtain ⟨h1, h2⟩ := h
 by_cases h0 : n = 0
 ·subst h0
  refine (AnyF.slices_SortFunc_none { layS with } ap c (.func (.func 80) #[] #[]) w).mono ?_
  rintro e w' ⟨he, rfl⟩
  exact ⟨he, q, ⟨h1, .inl rfl⟩, fun i j _ hj => by omega, fun p => Iff.rfl, Below.refl _ _⟩
 ·rcases h2 with h2 | ⟨rfl, pr⟩
  ·exact absurd h2 h0
  ·refine (P_SortPos g n c q w pr hn hb).mono ?_
   rintro e w' ⟨he, q', p1, p2, p3, hc⟩
   exact ⟨he, q', ⟨p1.lt, .inr ⟨rfl, p1⟩⟩, p2, p3, ⟨hc.os, hc.tape, hc.output, hc.size, fun k hk => hc.block k (by omega) (by have := hg0 (by omega); omega)⟩⟩
/-- Equal neighbours left out. -/
theorem P_CompactU (b0 g n c : Nat) (ap : Option Addr) (q : Nat → Psn) (w : World) (h : PL g ap n q w) (hn : n ≤ 100000) (hc : n ≤ c) (hb0 : b0 ≤ w.heap.size) (hg0 : 0 < n → b0 ≤ g) : Calls Tryz.prog 81 #[.slice ap n c] w fun e w' => e = .returned (.slice ap (ddK q n).length c) ∧ RCellsE psE g 0 (ddK q n) w' ∧ (0 < (ddK q n).length → ap = some ⟨g, 0, none⟩) ∧ (∀ k, k < w.heap.size → k ≠ g → w'.heap[k]? = w.heap[k]?) ∧ Below b0 w w' := by
 obtain ⟨h1, h2⟩ := h
 by_cases hn2 : n < 2
 ·have hd : (ddK q n).length = n ∧ ∀ i x, (ddK q n)[i]? = some x → q i = x := by
   have hnd : ∀ j, 0 < j → j < n → q j ≠ q (j - 1) := fun j k1 k2 => by omega
   exact ⟨dd_len hnd, dd_at hnd⟩
  refine (P_Compact1 ap n c w hn2).mono ?_
  rintro e w' ⟨he, hbn⟩
  rw [hd.1]
  refine ⟨he, ?_, fun k => ?_, fun k hk _ => hbn.block k hk, hbn.mono hb0⟩
  ·rcases h2 with h2 | ⟨rfl, pr⟩
   ·subst h2
    have hz : ddK q 0 = [] := rfl
    rw [hz]
    exact ⟨by have := hbn.size; omega, fun i x hi => by simp at hi⟩
   ·exact (pr.below hbn).rce _ (by rw [hd.1]; exact Nat.le_refl _) hd.2
  ·rcases h2 with h2 | ⟨h2, _⟩
   ·omega
   ·exact h2
 ·rcases h2 with h2 | ⟨rfl, pr⟩
  ·omega
  ·refine (P_CompactP g n c q w pr (by omega) hn hc).mono ?_
   rintro e w' ⟨f', he, p1, p2, hch⟩
   exact ⟨he, p1.rce _ (Nat.le_refl _) p2, fun _ => rfl, fun k hk hne => hch.block k hk hne, ⟨hch.os, hch.tape, hch.output, hch.size, fun k hk => hch.block k (by omega) (by have := hg0 (by omega); omega)⟩⟩
theorem rcp_load {w : World} {g : Nat} {ps : List Psn} (h : RCellsE psE g 0 ps w) {i : Nat} {p : Psn} (hi : ps[i]? = some p) : (Instr.loadAt 68 (.pointer (some ⟨g, i * 2, none⟩))).run Tryz.prog w = .ok (.agg #[.int .i64 p.1, .int .i64 p.2]) w := by
 have := h.load (T := 68) Tryz.isAgg68 hi
 rw [Nat.zero_add] at this
 exact this
/-- What the sorting and the leaving out of equal ones make of the positions of two masks. -/
theorem dd_posU {la lb : List TA} {q q' : Nat → Psn} (n : Nat) (hn : n = ((la ++ lb).map pT).length) (hq : q = fun j => ((la ++ lb).map pT).getD j (0, 0)) (h1 : ∀ i j, i < j → j < n → ltQ (q' j) (q' i) = false) (h2 : ∀ p, (∃ j, j < n ∧ q' j = p) ↔ ∃ j, j < n ∧ q j = p) : ddK q' n = posU la lb := by
 refine posU_eq (ddK_srt q' n h1 n (Nat.le_refl _)).1 fun p => ?_
 rw [ddK_mem, h2, hq]
 have key : (∃ j, j < n ∧ ((la ++ lb).map pT).getD j (0, 0) = p) ↔ p ∈ (la ++ lb).map pT := by
  constructor
  ·rintro ⟨j, hj, e⟩
   rw [hn] at hj
   rw [List.getD_eq_getElem?_getD, List.getElem?_eq_getElem hj] at e
   exact e ▸ List.getElem_mem _
  ·intro hm
   obtain ⟨j, hj, e⟩ := List.getElem_of_mem hm
   refine ⟨j, by omega, ?_⟩
   rw [List.getD_eq_getElem?_getD, List.getElem?_eq_getElem hj]
   exact e
 rw [key, List.mem_map]
 constructor
 ·rintro ⟨e, he, k⟩
  rcases List.mem_append.1 he with h | h
  ·exact .inl ⟨e, h, k⟩
  ·exact .inr ⟨e, h, k⟩
 ·rintro (⟨e, he, k⟩ | ⟨e, he, k⟩)
  ·exact ⟨e, List.mem_append.2 (.inl he), k⟩
  ·exact ⟨e, List.mem_append.2 (.inr he), k⟩
end Go.Proofs.YtamgpfblhlfhaaaGreat
