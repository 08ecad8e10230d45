import Derived.Test.YtamgpfblhlfhaaaGreatSf4
import Derived.DeepKeys5
import Derived.Maps.Keyed
import Derived.Maps.OwnOps
import Derived.Maps.OwnSet
import Derived.Maps.Views
import Derived.Lib.SmallJoins
import Derived.SizedLaws
import Derived.ChangeSlices

/- The iterator over the edges of a polygon: its contract. -/
namespace Go.Proofs.YtamgpfblhlfhaaaGreat
open Go.RowKit Go.Shelf Pl
attribute [local go_sem] Oper.semAt_some
set_option linter.unusedVariables false
set_option linter.unusedSimpArgs false
set_option maxRecDepth 20000
/-- The cells below n lie as they lay. -/
def HoldC (n : Nat) (W W' : World) : Prop := ∀ (k : Nat) (o : Obj), k < n → W.heap[k]? = some o → o.isCells = true → W'.heap[k]? = some o
theorem HoldC.of_below {n : Nat} {W W' : World} (h : Below n W W') : HoldC n W W' := fun k o hk ho _ => (h.block k hk).trans ho
theorem HoldC.below {n : Nat} {A B C : World} (h : HoldC n A B) (hb : Below B.heap.size B C) : HoldC n A C := fun k o hk ho hc => by
 have h1 := h k o hk ho hc
 exact (hb.block k (Array.getElem?_eq_some_iff.1 h1).1).trans h1
theorem HoldC.chg {n b : Nat} {t : TypeId} {cs : Array Value} {A B C : World} (h : HoldC n A B) (ho : AtB t B b cs) (hb : n ≤ b) (hc : Chg b B C) : HoldC n A C := fun k o hk ho hcl => by
 have h1 := h k o hk ho hcl
 exact (hc.block k (Array.getElem?_eq_some_iff.1 h1).1 (by omega)).trans h1
theorem AtB.hold {n b : Nat} {t : TypeId} {cs : Array Value} {W W' : World} (h : AtB t W b cs) (hb : b < n) (hc : HoldC n W W') : AtB t W' b cs := hc b _ hb h rfl
theorem cells_obj {W : World} {g o : Nat} {v : Value} (h : W.cell? ⟨g, o, none⟩ = some v) : ∃ x : Obj, W.heap[g]? = some x ∧ x.isCells = true := by
 unfold World.cell? at h
 cases hx : W.heap[g]? with
 | none => simp [hx] at h
 | some x => exact ⟨x, rfl, cell_not (by unfold World.cell?; exact h) x hx⟩
theorem RS.hold {v : Value} {ls : List TA} {n : Nat} {W W' : World} (h : RS v ls W) (hn : W.heap.size ≤ n) (hc : HoldC n W W') : RS v ls W' := by
 rcases h with h | ⟨g, o, c, e, hcp, sc⟩
 ·exact .inl h
 ·refine .inr ⟨g, o, c, e, hcp, fun hl => ?_⟩
  have rc := sc hl
  have h0 := rc.2 0 hl 0 (by omega)
  obtain ⟨v, hv⟩ : ∃ v, (taC (aT ls 0))[0]? = some v := ⟨_, taC_x _⟩
  rw [hv] at h0
  obtain ⟨x, hx, hxc⟩ := cells_obj h0
  exact rc.of_eq ((hc g x (by have := rc.lt; omega) hx hxc).trans hx.symm)
theorem InB.hold {r t : Nat} {ls : List TA} {th : Int} {W W' : World} (h : InB r t ls th W) (hc : HoldC W.heap.size W W') : InB r t ls th W' := by
 obtain ⟨v, h1, h2, h3⟩ := h
 exact ⟨v, h1.hold h1.lt hc, h2.hold h2.lt hc, h3.hold (Nat.le_refl _) hc⟩
/-- What a round of a body keeps that writes the block bl: the cells below n, the block c. -/
def KpO (n bl c : Nat) (W W' : World) : Prop := W.heap.size ≤ W'.heap.size ∧ ∀ (k : Nat) (o : Obj), (k < n ∧ k ≠ bl ∨ k = c) → W.heap[k]? = some o → o.isCells = true → W'.heap[k]? = some o
theorem KpO.trans {n bl c : Nat} {A B C : World} (h : KpO n bl c A B) (k : KpO n bl c B C) : KpO n bl c A C := ⟨Nat.le_trans h.1 k.1, fun i o hi ho hc => k.2 i o hi (h.2 i o hi ho hc) hc⟩
theorem KpO.putObj {n bl c : Nat} {W : World} {l : Nat} {o : Obj} (o' : Obj) (hl : W.heap[l]? = some o) (ho : o.isCells = false) : KpO n bl c W (W.putObj l o') :=
 ⟨by simp [World.putObj], fun k x hk hx hc => by
  have : k ≠ l := fun e => by rw [e, hl] at hx; cases hx; rw [ho] at hc; cases hc
  exact (World.putObj_heap_other (by omega)).trans hx⟩
theorem KpO.below {n bl c : Nat} {W W' : World} (h : Below W.heap.size W W') : KpO n bl c W W' := ⟨h.size, fun k o _ ho _ => (h.block k (Array.getElem?_eq_some_iff.1 ho).1).trans ho⟩
theorem KpO.atB {n bl c b : Nat} {t : TypeId} {cs : Array Value} {W W' : World} (h : KpO n bl c W W') (hb : b < n ∧ b ≠ bl ∨ b = c) (ha : AtB t W b cs) : AtB t W' b cs := h.2 b _ hb ha rfl
theorem HoldC.kpo {m n bl c : Nat} {A W W' : World} (h : HoldC m A W) (hm : m ≤ n) (hb : m ≤ bl) (k : KpO n bl c W W') : HoldC m A W' := fun i o hi ho hc => k.2 i o (.inl ⟨by omega, by omega⟩) (h i o hi ho hc) hc
section
variable {F : Fence} {n : Nat} {P : Program} {ops : Array Oper} {rest : List Oper} {o : Oper} {a : Act} {w : World} {Q : Exit → Act → World → Prop}
theorem wpListIn_ld {t : TypeId} {x : Operand} (hg : o.guard = none) (hop : o.op = .load t x) (p : Value) (hx : a.eval x = p) (v : Value) (hr : (Instr.loadAt t p).run P w = .ok v w) (h : wpListIn F n P ops Q rest (a.put o.dst v) w) : wpListIn F n P ops Q (o :: rest) a w := by
 refine wpListIn_plain hg fun K' hK' => ?_
 unfold Oper.wpIn
 refine ⟨by simp [Oper.about, hop], ?_⟩
 rw [Oper.semAt_plain F _ _ (by rw [hop]; intro c hc'; cases hc')]
 simp [execOp, hop, hx, hr, Result.andThen]
 exact hK' _ _ h
theorem wpListIn_mv {x : Operand} (hg : o.guard = none) (hop : o.op = .move x) (v : Value) (hx : a.eval x = v) (h : wpListIn F n P ops Q rest (a.put o.dst v) w) : wpListIn F n P ops Q (o :: rest) a w := by
 refine wpListIn_plain hg fun K' hK' => ?_
 unfold Oper.wpIn
 refine ⟨by simp [Oper.about, hop], ?_⟩
 rw [Oper.semAt_plain F _ _ (by rw [hop]; intro c hc'; cases hc')]
 simp [execOp, hop, hx, Result.andThen]
 exact hK' _ _ h
end
theorem least_ex {p : Nat → Prop} (h : ∃ m, p m) : ∃ m, p m ∧ ∀ j, p j → m ≤ j := by
 obtain ⟨m, hm⟩ := h
 induction m using Nat.strongRecOn with
 | _ m ih =>
  by_cases hx : ∃ j, j < m ∧ p j
  ·obtain ⟨j, hj, hp⟩ := hx
   exact ih j hj hp
  ·exact ⟨m, hm, fun j hj => Nat.le_of_not_lt fun hlt => hx ⟨j, hlt, hj⟩⟩
/-- m is the least number of which p holds. -/
def LeastP (p : Nat → Prop) (m : Nat) : Prop := p m ∧ ∀ j, p j → m ≤ j
theorem eps_least {p : Nat → Prop} (h : ∃ m, p m) : LeastP p (Classical.epsilon (LeastP p)) := Classical.epsilon_spec (least_ex h)
theorem eps_le {p : Nat → Prop} {m : Nat} (h : p m) : Classical.epsilon (LeastP p) ≤ m := (eps_least ⟨m, h⟩).2 m h
theorem P_onO (x y d x' y' : Int) (w : World) (hx : -100000 ≤ x ∧ x ≤ 100000) (hy : -100000 ≤ y ∧ y ≤ 100000) (hd : 0 ≤ d ∧ d ≤ 3) (e1 : x + dxE d = x') (e2 : y + dyE d = y') : Calls Tryz.prog 99 #[.agg #[.int .i64 x, .int .i64 y, .int .i64 d]] w fun e w' => e = .returned (.tuple #[.int .i64 x', .int .i64 y']) ∧ Below w.heap.size w w' := e1 ▸ e2 ▸ P_on x y d w hx hy hd
def edC (e : Ed) : Array Value := #[.int .i64 e.x, .int .i64 e.y, .int .i64 e.d]
theorem equalIn_stS (d : Nat) (e f : Ed) (w : World) : (Op.equalIn (d + 2) 90 (.agg (edC e)) (.agg (edC f))).run Tryz.prog w = .ok (decide (e = f)) w := by
 obtain ⟨x, y, z⟩ := e
 obtain ⟨x', y', z'⟩ := f
 have h : (Op.equalIn (d + 2) 90 (.agg (edC ⟨x, y, z⟩)) (.agg (edC ⟨x', y', z'⟩))).run Tryz.prog w = .ok (x == x' && (y == y' && z == z')) w := by
  simp only [edC]
  by_cases h1 : x = x' <;> by_cases h2 : y = y' <;> by_cases h3 : z = z' <;> simp [go_sem, h1, h2, h3]
 rw [h]
 congr 1
 rw [Bool.eq_iff_iff]
 simp
theorem eql_stS (e f : Ed) (w : World) : (binOp .eql 90 (.agg (edC e)) (.agg (edC f))).run Tryz.prog w = .ok (.bool (decide (e = f))) w := by
 have h := run_eql_struct (P := Tryz.prog) w 90 (edC e) (edC f)
 rw [h, equalIn_stS 9998 e f w]; rfl
@[go_sem] theorem guard_stS (op : BinOp) (p q : Operand) (cs ds : Array Value) (w : World) : (eqGuard op 90 p q (.agg cs) (.agg ds)).run Tryz.prog w = .ok () w := run_eqGuard_agg w op 90 p q _ _ (by kernel_rfl)
section
variable {o : Oper} {a : Act} {C : World → Prop} {K : Act → Prop}
theorem quiet_eqlS {x y : Operand} {t2 : TypeId} (h : o.op = .binOp .eql 90 x y t2) (e f : Ed) (hx : a.eval x = .agg (edC e)) (hy : a.eval y = .agg (edC f)) (b : Bool) (hb : decide (e = f) = b) (hk : K (a.put o.dst (.bool b))) : o.quiet Tryz.prog a C K :=
 ⟨_, fun w hw => by unfold Oper.quietAt execOp; simp only [h, hx, hy, guard_stS, eql_stS, hb, Sem.run_bind, Sem.run_pure, Result.andThen_ok]; exact ⟨rfl, rfl⟩, hk⟩
end
section
variable {o : Oper} {a : Act} {C : World → Prop} {K : Act → Prop}
end
theorem run_alloc_St (w : World) (o : Oper) (ho : o.op = .alloc 90) (ev : Operand → Value) : (execOp ev o).run Tryz.prog w = .ok (.value (.pointer (some ⟨w.heap.size, 0, none⟩))) (w.alloc (.cells #[.int .i64 0, .int .i64 0, .int .i64 0] 90)) := by
 obtain ⟨d, op, ty, pos, af, g⟩ := o
 simp only at ho
 subst ho
 kernel_rfl
theorem P_from (r t : Nat) (x y d : Int) (w : World) : Calls Tryz.prog 61 #[.agg #[fB r t], .agg #[.int .i64 x, .int .i64 y, .int .i64 d]] w fun v w' => ∃ bs bb, v = .returned (.func (.func 98) #[] #[.pointer (some ⟨bs, 0, none⟩), .pointer (some ⟨bb, 0, none⟩)]) ∧ w.heap.size ≤ bs ∧ w.heap.size ≤ bb ∧ AtB 90 w' bs #[.int .i64 x, .int .i64 y, .int .i64 d] ∧ AtB 86 w' bb #[fB r t] ∧ Below w.heap.size w w' := by
 have B := Below.refl w.heap.size w
 go_enter Tryz.func61, Tryz.ntmps61
 go_upto_region 0 with fail
 refine wp_region_lit ?_
 try simp only [gelS]
 (refine wpList_boxB (t := 86) rfl _ rfl _ rfl ?_; intro b_p2 wn hle hge ht hbn hzn; have hsz := B.size; replace B := B.trans (hbn.mono (by omega)); have hln := Nat.lt_of_lt_of_eq (Nat.lt_succ_self _) hzn.symm; clear hzn; have p2 := ht; clear ht; simp only [putS])
 (refine wpList_boxB (t := 90) rfl _ rfl _ rfl ?_; intro b_p1 wn hle hge ht hbn hzn; have hsz := B.size; replace B := B.trans (hbn.mono (by omega)); have hln := Nat.lt_of_lt_of_eq (Nat.lt_succ_self _) hzn.symm; clear hzn; (try have hlt := p2.lt); (try replace p2 := p2.below (hbn.mono hle)); have p1 := ht; clear ht; simp only [putS])
 refine wpList_chunk 1 (by kernel_rfl) ?_
 simp only [takS, Nat.reduceAdd]
 repeat (first | go_big_quiet_skip | (go_big_quiet_want; go_big_quiet_op; go_big_quiet_on))
 refine wpQuiet_nil ?_
 refine wpList_nil ?_
 go_upto_region 1 with fail
 refine wp_region_lit ?_
 try simp only [gelS]
 (refine wpList_val rfl (.func (.func 98) #[] #[.pointer (some ⟨b_p1, 0, none⟩), .pointer (some ⟨b_p2, 0, none⟩)]) (by first | rfl | simp [go_sem, Act.eval]) ?_; simp only [putS])
 refine wpList_chunk 1 (by kernel_rfl) ?_
 simp only [takS, Nat.reduceAdd]
 repeat (first | go_big_quiet_skip | (go_big_quiet_want; go_big_quiet_op; go_big_quiet_on))
 refine wpQuiet_nil ?_
 refine wpList_nil ?_
 go_wp2
 go_ret
 exact ⟨_, _, rfl, by omega, by omega, p1, p2, B⟩
set_option maxHeartbeats 4000000 in
theorem from_stops (r t : Nat) (ls : List TA) (th : Int) (tk : TokL ls) (hn : ls.length ≤ maxLen) (R : Rc) (hR : -65536 ≤ R.x0 ∧ R.x1 ≤ 65536 ∧ -65536 ≤ R.y0 ∧ R.y1 ≤ 65536) (hbx : BoxE (setG ls th) R) (s : Ed) (hs : Bnd (setG ls th) s) (bs bb bl n : Nat) (hn1 : 1 ≤ n) (w wI : World)
  (p1 : AtB 90 w bs (edC s)) (p2 : AtB 86 w bb #[fB r t]) (hI : InB r t ls th wI) (hw : HoldC wI.heap.size wI w) (hwI : wI.heap.size ≤ w.heap.size) (hbl : wI.heap.size ≤ bl) (h1 : bs ≠ bl) (h2 : bb ≠ bl) :
  SeqOwn Fence.wide n Tryz.prog 98 #[.pointer (some ⟨bs, 0, none⟩), .pointer (some ⟨bb, 0, none⟩)] (fun e : Ed => #[.agg (edC e)]) (KpO w.heap.size bl) (fun xs => xs = folE (setG ls th) R s) (fun pre x => ∃ k, k < perE (setG ls th) R s ∧ pre = orbK (setG ls th) s k ∧ x = orbE (setG ls th) s k) w := fun l J W0 hW hJa hY hJ => by
 have hl1 := p1.lt
 have hl2 := p2.lt
 replace p1 := p1.of_eq (hW.block _ p1.lt)
 replace p2 := p2.of_eq (hW.block _ p2.lt)
 have HW := hw.below hW
 have hwW := hW.size
 have HI := Lib.hid hI
 have HJ := Lib.hid (fun (s : List Ed) (X Y : World) (hs : J s X) (hb : Exc W0.heap.size X.heap.size X Y) => hJa s X Y (some W0.heap.size) hs ⟨hb.os, hb.tape, hb.output, hb.grow, fun k hk hne => hb.block k hk (fun e => hne (by rw [e]))⟩ (fun r e => by cases e; rfl))
 have HJB := Lib.hid (fun (s : List Ed) (X Y : World) (hs : J s X) (hb : Below X.heap.size X Y) => hJa.below hs hb)
 have HY := Lib.hid hY
 have HP := Lib.hid (perE_spec hbx hs)
 have HB := Lib.hid (fun k => orb_bnd hs k)
 have HX := Lib.hid hbx
 clear hI hJa hY hbx
 refine callsIn_wide.2 ?_
 show Calls Tryz.prog 98 #[.func (.yield l) #[] #[], .pointer (some ⟨bs, 0, none⟩), .pointer (some ⟨bb, 0, none⟩)] W0 _
 have B := Below.refl W0.heap.size W0
 go_enter Tryz.func98, Tryz.ntmps98
 go_upto_region 0 with fail
 refine wp_region_lit ?_
 try simp only [gelS]
 refine wpList_chunk 1 (by kernel_rfl) ?_
 simp only [takS, Nat.reduceAdd]
 repeat (first | go_big_quiet_skip | (go_big_quiet_want; first | (refine quiet_loadAny (t := 90) rfl _ _ _ rfl (fun w hw => run_load_B (ov_B p1 w hw) Tryz.isAgg90 (by kernel_rfl)) (by rfl) ?_; simp only [putS]; go_big_quiet_on) | (go_big_quiet_op; go_big_quiet_on)))
 refine wpQuiet_nil ?_
 (refine wpList_allocBk (t := 90) rfl _ (run_alloc_St _ _ rfl) ?_; intro b_p4 wn hle hge ht hbn hzn; have hsz := B.size; replace B := B.trans (hbn.mono (by omega)); have hln := Nat.lt_of_lt_of_eq (Nat.lt_succ_self _) hzn.symm; clear hzn; (try have hlt := p1.lt); (try replace p1 := p1.below (hbn.mono hle)); (try have hlt := p2.lt); (try replace p2 := p2.below (hbn.mono hle)); (try have hlt := HW.lt); (try replace HW := HW.below (hbn.mono hle)); have p4 := ht; clear ht; simp only [putS])
 (refine wpList_storeB (t := 90) rfl _ _ rfl _ rfl _ rfl p4 (by kernel_rfl) rfl (by simp [edC, Value.oneCell']) ?_; have p4o := p4; clear p4; intro wn ht hcn hzn; (try replace HW := HW.chg p4o (by omega) hcn); have hsz := B.size; replace hzn := Nat.le_of_eq hzn.symm; replace B := Chg.below B hcn (by omega) B.size; (try replace p1 := p1.of_eq (hcn.block _ p1.lt (by omega))); (try replace p2 := p2.of_eq (hcn.block _ p2.lt (by omega))); (try replace HW := HW.of_eq (hcn.block _ HW.lt (by omega))); have p4 := ht; clear ht; simp only [putS])
 refine wpList_nil ?_
 have hb4 : b_p4 = W0.heap.size := by omega
 have hbsz := B.size
 have hJ1 := HJB.out _ _ _ hJ B
 have k4 := p4.lt
 replace hJ := hJ1
 clear hJ1 B hW
 have HS4 := Lib.hid (show b_p4 = W0.heap.size ∧ wI.heap.size ≤ b_p4 from ⟨hb4, by omega⟩)
 have n14 : bs < b_p4 := by omega
 have n24 : bb < b_p4 := by omega
 have hbI : wI.heap.size ≤ b_p4 := HS4.out.2
 clear HS4
 subst hb4
 generalize W0.heap.size = c at *
 go_wp2
 go_loopw [5, 6, 8, 9, 19, 20] (fun _ _ _ _ _ _ wr => ∃ m, (∃ k, m + k = perE (setG ls th) R s ∧ 0 < m ∧ J (orbK (setG ls th) s k) wr ∧ AtB 90 wr c (edC (orbE (setG ls th) s k)) ∧ AtB 90 wr bs (edC s) ∧ AtB 86 wr bb #[fB r t] ∧ HoldC wI.heap.size wI wr)) (fun _ _ _ _ _ _ wr => Classical.epsilon (LeastP fun m => (∃ k, m + k = perE (setG ls th) R s ∧ 0 < m ∧ J (orbK (setG ls th) s k) wr ∧ AtB 90 wr c (edC (orbE (setG ls th) s k)) ∧ AtB 90 wr bs (edC s) ∧ AtB 86 wr bb #[fB r t] ∧ HoldC wI.heap.size wI wr)))
 case atStart => exact ⟨perE (setG ls th) R s, 0, by omega, HP.out.2.1, hJ, p4, p1, p2, HW⟩
 case round =>
  clear hJ p4 p1 p2 HW
  have hleast := (eps_least hrel).1
  generalize hm : Classical.epsilon (LeastP fun m => (∃ k, m + k = perE (setG ls th) R s ∧ 0 < m ∧ J (orbK (setG ls th) s k) wr ∧ AtB 90 wr c (edC (orbE (setG ls th) s k)) ∧ AtB 90 wr bs (edC s) ∧ AtB 86 wr bb #[fB r t] ∧ HoldC wI.heap.size wI wr)) = m at hleast
  obtain ⟨k, hmk, hm0, hJ, p4, p1, p2, HW⟩ := hleast
  obtain ⟨fn, tmps, assign, body, hy, hR⟩ := HY.out (orbK (setG ls th) s k) (orbE (setG ls th) s k) _ hJ ⟨k, by omega, rfl, rfl⟩ p4.lt
  go_upto_region 1 with fail
  refine (wpIn_wide (n := n)).1 ?_
  refine wpIn_region_lit ?_
  try simp only [gelS]
  refine wpListIn_mv rfl rfl (.func (.yield l) #[] #[]) rfl ?_
  simp only [putS]
  refine wpListIn_ld rfl rfl _ rfl _ (run_load_B p4 Tryz.isAgg90 (by kernel_rfl)) ?_
  simp only [putS]
  gi_wp2
  refine hR.mono ?_
  rintro e W1 ⟨rfl, hJ1, hkp⟩
  replace p4 := hkp.atB (.inr rfl) p4
  replace p1 := hkp.atB (.inl ⟨hl1, h1⟩) p1
  replace p2 := hkp.atB (.inl ⟨hl2, h2⟩) p2
  replace HW := HW.kpo hwI hbl hkp
  rw [← orbK_snoc] at hJ1
  have hbd := HB.out k
  have hcs := next_cases hbd
  have hnx : orbE (setG ls th) s (k + 1) = nextE (setG ls th) (orbE (setG ls th) s k) := rfl
  have hbx := HX.out _ hbd
  have hbn1 := HX.out _ (HB.out (k + 1))
  have hend := Lib.hid (show k + 1 = perE (setG ls th) R s → orbE (setG ls th) s (k + 1) = s from fun e => by rw [e]; exact HP.out.1)
  have hgo := Lib.hid (show k + 1 < perE (setG ls th) R s → orbE (setG ls th) s (k + 1) ≠ s from fun e => HP.out.2.2.2 _ (by omega) e)
  have HM := Lib.hid hm
  clear hm hJ hy hR hkp hrel
  obtain ⟨⟨x, y, d⟩, he⟩ : ∃ e, orbE (setG ls th) s k = e := ⟨_, rfl⟩
  rw [he] at p4 hbd hcs hbx hnx
  obtain ⟨⟨x', y', d'⟩, he'⟩ : ∃ e, orbE (setG ls th) s (k + 1) = e := ⟨_, rfl⟩
  rw [he'] at hnx hbn1 hend hgo
  rw [← hnx] at hcs
  simp only at hcs hbx hbn1
  obtain ⟨hx', hy', hb', hcs⟩ := hcs
  have hd : 0 ≤ d ∧ d ≤ 3 := hbd.1
  rw [← hx', ← hy'] at hcs
  replace p4 : AtB 90 W1 c #[.int .i64 x, .int .i64 y, .int .i64 d] := p4
  obtain ⟨q1, hq1⟩ : ∃ q, (d + 1) % 4 = q := ⟨_, rfl⟩
  obtain ⟨q3, hq3⟩ : ∃ q, (d + 3) % 4 = q := ⟨_, rfl⟩
  have ht1 : Int.tmod (d + 1) 4 = q1 := by rw [Int.tmod_eq_emod_of_nonneg (by omega)]; exact hq1
  have ht3 : Int.tmod (d + 3) 4 = q3 := by rw [Int.tmod_eq_emod_of_nonneg (by omega)]; exact hq3
  have ht0 : Int.tmod d 4 = d := by rw [Int.tmod_eq_emod_of_nonneg (by omega)]; omega
  have b1 : 0 ≤ q1 ∧ q1 ≤ 3 := by omega
  have b3 : 0 ≤ q3 ∧ q3 ≤ 3 := by omega
  rw [hq1, hq3] at hcs
  have bx : -100000 ≤ x ∧ x ≤ 100000 := by omega
  have by_ : -100000 ≤ y ∧ y ≤ 100000 := by omega
  have bx' : -100000 ≤ x' ∧ x' ≤ 100000 := by omega
  have by' : -100000 ≤ y' ∧ y' ≤ 100000 := by omega
  have HON := Lib.hid (show x + dxE d = x' ∧ y + dyE d = y' from ⟨hx'.symm, hy'.symm⟩)
  have HE' := Lib.hid he'
  clear he he' hx' hy' hbx hbn1 hbd hb' hnx
  have B := Exc.refl c W1
  have k4 := p4.lt
  gi_wp2
  go_upto_region 2 with fail
  refine wp_region_lit ?_
  try simp only [gelS]
  refine wpList_chunk 1 (by kernel_rfl) ?_
  simp only [takS, Nat.reduceAdd]
  repeat (first | go_big_quiet_skip | (go_big_quiet_want; first | (refine quiet_loadAny (t := 90) rfl _ _ _ rfl (fun w hw => run_load_B (ov_B p4 w hw) Tryz.isAgg90 (by kernel_rfl)) (by rfl) ?_; simp only [putS]; go_big_quiet_on) | (go_big_quiet_op; go_big_quiet_on)))
  refine wpQuiet_nil ?_
  refine wpList_callF (by first | rfl | simp [Region.wanted, yielded]) rfl (enters_of Tryz.func99 (by kernel_rfl) rfl) (by simp only [Act.eval, evlS]; rfl) ?_
  refine (P_onO x y d x' y' _ bx by_ hd HON.out.1 HON.out.2).mono ?_
  rintro e wn ⟨rfl, hbn⟩
  have hsz := B.size
  have hzn := hbn.size
  replace B := B.trans (hbn.mono B.size)
  (try replace p4 := p4.below hbn)
  (try replace p1 := p1.below hbn)
  (try replace p2 := p2.below hbn)
  (try replace HW := HW.below hbn)
  refine ⟨_, rfl, ?_⟩
  simp only [putS]
  refine wpList_chunk 5 (by kernel_rfl) ?_
  simp only [takS, Nat.reduceAdd]
  repeat (first | go_big_quiet_skip | (go_big_quiet_want; go_big_quiet_op; go_big_quiet_on))
  refine wpQuiet_nil ?_
  refine wpList_nil ?_
  go_upto_region 3 with fail
  refine wp_region_lit ?_
  try simp only [gelS]
  refine wpList_chunk 2 (by kernel_rfl) ?_
  simp only [takS, Nat.reduceAdd]
  repeat (first | go_big_quiet_skip | (go_big_quiet_want; go_big_quiet_op; go_big_quiet_on))
  refine wpQuiet_nil ?_
  refine wpList_nil ?_
  go_wp2
  refine wp_loop_rounds 3 ?_
  rw [rounds_succ]
  rcases hcs with ⟨hd', c1⟩ | ⟨hd', c1, c2⟩ | ⟨hd', c1, c2, c3⟩
  ·have HD := Lib.hid hd'
   clear hd'
   go_upto_region 4 with fail
   refine wp_region_lit ?_
   try simp only [gelS]
   refine wpList_chunk 1 (by kernel_rfl) ?_
   simp only [takS, Nat.reduceAdd]
   repeat (first | go_big_quiet_skip | (go_big_quiet_want; go_big_quiet_op; go_big_quiet_on))
   refine wpQuiet_nil ?_
   refine wpList_nil ?_
   go_upto_region 5 with fail
   refine wp_region_lit ?_
   try simp only [gelS]
   refine wpList_chunk 2 (by kernel_rfl) ?_
   simp only [takS, Nat.reduceAdd]
   repeat (first | go_big_quiet_skip | (go_big_quiet_want; first | (refine quiet_indexA rfl #[.int .i64 1, .int .i64 0, .int .i64 3] rfl (0) rfl (.int .i64 (1)) (fun w => by kernel_rfl) ?_; simp only [putS]; go_big_quiet_on) | (go_big_quiet_op; go_big_quiet_on)))
   refine wpQuiet_nil ?_
   refine wpList_nil ?_
   go_upto_region 6 with fail
   refine wp_region_lit ?_
   try simp only [gelS]
   refine wpList_chunk 8 (by kernel_rfl) ?_
   simp only [takS, Nat.reduceAdd]
   repeat (first | go_big_quiet_skip | (go_big_quiet_want; first | (refine quiet_loadAny (t := 3) rfl _ _ _ rfl (fun w hw => run_load_int ((ov_B p4 w hw).cellL 2 rfl)) (by rfl) ?_; simp only [putS]; go_big_quiet_on) | (go_big_quiet_op; go_big_quiet_on)))
   refine wpQuiet_nil ?_
   (refine wpList_allocBk (t := 90) rfl _ (run_alloc_St _ _ rfl) ?_; intro b_p9 wn hle hge ht hbn hzn; have hsz := B.size; replace B := B.trans (hbn.mono (by omega)); have hln := Nat.lt_of_lt_of_eq (Nat.lt_succ_self _) hzn.symm; clear hzn; (try have hlt := p4.lt); (try replace p4 := p4.below (hbn.mono hle)); (try have hlt := p1.lt); (try replace p1 := p1.below (hbn.mono hle)); (try have hlt := p2.lt); (try replace p2 := p2.below (hbn.mono hle)); (try have hlt := HW.lt); (try replace HW := HW.below (hbn.mono hle)); have p9 := ht; clear ht; simp only [putS])
   (refine wpList_storeB (t := 90) rfl _ _ rfl _ rfl _ rfl p9 (by kernel_rfl) rfl (by simp [edC, Value.oneCell']) ?_; have p9o := p9; clear p9; intro wn ht hcn hzn; (try replace HW := HW.chg p9o (by omega) hcn); have hsz := B.size; replace hzn := Nat.le_of_eq hzn.symm; replace B := Exc.store B hcn (by omega); (try replace p4 := p4.of_eq (hcn.block _ p4.lt (by omega))); (try replace p1 := p1.of_eq (hcn.block _ p1.lt (by omega))); (try replace p2 := p2.of_eq (hcn.block _ p2.lt (by omega))); (try replace HW := HW.of_eq (hcn.block _ HW.lt (by omega))); have p9 := ht; clear ht; simp only [putS])
   refine wpList_nil ?_
   replace p9 : AtB 90 _ b_p9 #[.int .i64 x', .int .i64 y', .int .i64 q1] := p9
   have hI := HI.out.hold HW
   have k9 := p9.lt
   go_upto_region 7 with fail
   refine wp_region_lit ?_
   try simp only [gelS]
   refine wpList_chunk 2 (by kernel_rfl) ?_
   simp only [takS, Nat.reduceAdd]
   repeat (first | go_big_quiet_skip | (go_big_quiet_want; first | (refine quiet_loadAny (t := 90) rfl _ _ _ rfl (fun w hw => run_load_B (ov_B p9 w hw) Tryz.isAgg90 (by kernel_rfl)) (by rfl) ?_; simp only [putS]; go_big_quiet_on) | (refine quiet_loadAny (t := 86) rfl _ _ _ rfl (fun w hw => run_load_B (ov_B p2 w hw) Tryz.isAgg86 (by kernel_rfl)) (by rfl) ?_; simp only [putS]; go_big_quiet_on) | (go_big_quiet_op; go_big_quiet_on)))
   refine wpQuiet_nil ?_
   refine wpList_callF (by first | rfl | simp [Region.wanted, yielded]) rfl (enters_of Tryz.func60 (by kernel_rfl) rfl) (by simp only [Act.eval, evlS]; rfl) ?_
   refine (P_has r t ls th x' y' q1 true _ hI tk hn bx' by' b1 c1).mono ?_
   rintro e wn ⟨rfl, hbn⟩
   have hsz := B.size
   have hzn := hbn.size
   replace B := B.trans (hbn.mono B.size)
   (try replace p4 := p4.below hbn)
   (try replace p1 := p1.below hbn)
   (try replace p2 := p2.below hbn)
   (try replace HW := HW.below hbn)
   (try replace p9 := p9.below hbn)
   refine ⟨_, rfl, ?_⟩
   simp only [putS]
   refine wpList_nil ?_
   clear hI
   go_upto_region 8 with fail
   refine wp_region_lit ?_
   try simp only [gelS]
   refine wpList_chunk 1 (by kernel_rfl) ?_
   simp only [takS, Nat.reduceAdd]
   repeat (first | go_big_quiet_skip | (go_big_quiet_want; first | (refine quiet_loadAny (t := 90) rfl _ _ _ rfl (fun w hw => run_load_B (ov_B p9 w hw) Tryz.isAgg90 (by kernel_rfl)) (by rfl) ?_; simp only [putS]; go_big_quiet_on) | (go_big_quiet_op; go_big_quiet_on)))
   refine wpQuiet_nil ?_
   (refine wpList_storeB (t := 90) rfl _ _ rfl _ rfl _ rfl p4 (by kernel_rfl) rfl (by simp [edC, Value.oneCell']) ?_; have p4o := p4; clear p4; intro wn ht hcn hzn; (try replace HW := HW.chg p4o (by omega) hcn); have hsz := B.size; replace hzn := Nat.le_of_eq hzn.symm; replace B := Exc.chg B hcn; (try replace p1 := p1.of_eq (hcn.block _ p1.lt (by omega))); (try replace p2 := p2.of_eq (hcn.block _ p2.lt (by omega))); (try replace HW := HW.of_eq (hcn.block _ HW.lt (by omega))); (try replace p9 := p9.of_eq (hcn.block _ p9.lt (by omega))); have p4 := ht; clear ht; simp only [putS])
   refine wpList_nil ?_
   replace p4 : AtB 90 _ c #[.int .i64 x', .int .i64 y', .int .i64 q1] := p4
   replace p4 : AtB 90 _ c (edC ⟨x', y', q1⟩) := p4
   rw [← HD.out] at p4
   go_upto_region 10 with fail
   by_cases hlast : k + 1 = perE (setG ls th) R s
   ·have he2 := hend.out hlast
    have q2 : decide ((⟨x', y', d'⟩ : Ed) = s) = true := decide_eq_true he2
    refine wp_region_lit ?_
    try simp only [gelS]
    refine wpList_chunk 3 (by kernel_rfl) ?_
    simp only [takS, Nat.reduceAdd]
    repeat (first | go_big_quiet_skip | (go_big_quiet_want; first | (refine quiet_loadAny (t := 90) rfl _ _ _ rfl (fun w hw => run_load_B (ov_B p4 w hw) Tryz.isAgg90 (by kernel_rfl)) (by rfl) ?_; simp only [putS]; go_big_quiet_on) | (refine quiet_loadAny (t := 90) rfl _ _ _ rfl (fun w hw => run_load_B (ov_B p1 w hw) Tryz.isAgg90 (by kernel_rfl)) (by rfl) ?_; simp only [putS]; go_big_quiet_on) | (refine quiet_eqlS rfl ⟨x', y', d'⟩ s rfl rfl _ q2 ?_; simp only [putS]; go_big_quiet_on) | (go_big_quiet_op; go_big_quiet_on)))
    refine wpQuiet_nil ?_
    refine wpList_nil ?_
    go_wp2
    refine bodyPost_ret (results_none rfl _ _ _) rfl ?_
    exact ⟨⟨_, rfl⟩, _, rfl, by unfold folE; rw [← hlast]; exact HJ.out _ _ _ hJ1 B⟩
   ·have q2 : decide ((⟨x', y', d'⟩ : Ed) = s) = false := decide_eq_false (hgo.out (by omega))
    refine wp_region_lit ?_
    try simp only [gelS]
    refine wpList_chunk 3 (by kernel_rfl) ?_
    simp only [takS, Nat.reduceAdd]
    repeat (first | go_big_quiet_skip | (go_big_quiet_want; first | (refine quiet_loadAny (t := 90) rfl _ _ _ rfl (fun w hw => run_load_B (ov_B p4 w hw) Tryz.isAgg90 (by kernel_rfl)) (by rfl) ?_; simp only [putS]; go_big_quiet_on) | (refine quiet_loadAny (t := 90) rfl _ _ _ rfl (fun w hw => run_load_B (ov_B p1 w hw) Tryz.isAgg90 (by kernel_rfl)) (by rfl) ?_; simp only [putS]; go_big_quiet_on) | (refine quiet_eqlS rfl ⟨x', y', d'⟩ s rfl rfl _ q2 ?_; simp only [putS]; go_big_quiet_on) | (go_big_quiet_op; go_big_quiet_on)))
    refine wpQuiet_nil ?_
    refine wpList_nil ?_
    go_wp2
    have hR2 : ∃ k, (m - 1) + k = perE (setG ls th) R s ∧ 0 < (m - 1) ∧ J (orbK (setG ls th) s k) wn ∧ AtB 90 wn c (edC (orbE (setG ls th) s k)) ∧ AtB 90 wn bs (edC s) ∧ AtB 86 wn bb #[fB r t] ∧ HoldC wI.heap.size wI wn :=
     ⟨k + 1, by omega, by omega, HJ.out _ _ _ hJ1 B, by rw [HE'.out]; exact p4, p1, p2, HW⟩
    go_roundw
    case rel => exact ⟨_, hR2⟩
    case measure => exact Nat.lt_of_le_of_lt (eps_le hR2) (by omega)
  ·have HD := Lib.hid hd'
   clear hd'
   go_upto_region 4 with fail
   refine wp_region_lit ?_
   try simp only [gelS]
   refine wpList_chunk 1 (by kernel_rfl) ?_
   simp only [takS, Nat.reduceAdd]
   repeat (first | go_big_quiet_skip | (go_big_quiet_want; go_big_quiet_op; go_big_quiet_on))
   refine wpQuiet_nil ?_
   refine wpList_nil ?_
   go_upto_region 5 with fail
   refine wp_region_lit ?_
   try simp only [gelS]
   refine wpList_chunk 2 (by kernel_rfl) ?_
   simp only [takS, Nat.reduceAdd]
   repeat (first | go_big_quiet_skip | (go_big_quiet_want; first | (refine quiet_indexA rfl #[.int .i64 1, .int .i64 0, .int .i64 3] rfl (0) rfl (.int .i64 (1)) (fun w => by kernel_rfl) ?_; simp only [putS]; go_big_quiet_on) | (go_big_quiet_op; go_big_quiet_on)))
   refine wpQuiet_nil ?_
   refine wpList_nil ?_
   go_upto_region 6 with fail
   refine wp_region_lit ?_
   try simp only [gelS]
   refine wpList_chunk 8 (by kernel_rfl) ?_
   simp only [takS, Nat.reduceAdd]
   repeat (first | go_big_quiet_skip | (go_big_quiet_want; first | (refine quiet_loadAny (t := 3) rfl _ _ _ rfl (fun w hw => run_load_int ((ov_B p4 w hw).cellL 2 rfl)) (by rfl) ?_; simp only [putS]; go_big_quiet_on) | (go_big_quiet_op; go_big_quiet_on)))
   refine wpQuiet_nil ?_
   (refine wpList_allocBk (t := 90) rfl _ (run_alloc_St _ _ rfl) ?_; intro b_p9 wn hle hge ht hbn hzn; have hsz := B.size; replace B := B.trans (hbn.mono (by omega)); have hln := Nat.lt_of_lt_of_eq (Nat.lt_succ_self _) hzn.symm; clear hzn; (try have hlt := p4.lt); (try replace p4 := p4.below (hbn.mono hle)); (try have hlt := p1.lt); (try replace p1 := p1.below (hbn.mono hle)); (try have hlt := p2.lt); (try replace p2 := p2.below (hbn.mono hle)); (try have hlt := HW.lt); (try replace HW := HW.below (hbn.mono hle)); have p9 := ht; clear ht; simp only [putS])
   (refine wpList_storeB (t := 90) rfl _ _ rfl _ rfl _ rfl p9 (by kernel_rfl) rfl (by simp [edC, Value.oneCell']) ?_; have p9o := p9; clear p9; intro wn ht hcn hzn; (try replace HW := HW.chg p9o (by omega) hcn); have hsz := B.size; replace hzn := Nat.le_of_eq hzn.symm; replace B := Exc.store B hcn (by omega); (try replace p4 := p4.of_eq (hcn.block _ p4.lt (by omega))); (try replace p1 := p1.of_eq (hcn.block _ p1.lt (by omega))); (try replace p2 := p2.of_eq (hcn.block _ p2.lt (by omega))); (try replace HW := HW.of_eq (hcn.block _ HW.lt (by omega))); have p9 := ht; clear ht; simp only [putS])
   refine wpList_nil ?_
   replace p9 : AtB 90 _ b_p9 #[.int .i64 x', .int .i64 y', .int .i64 q1] := p9
   have hI := HI.out.hold HW
   have k9 := p9.lt
   go_upto_region 7 with fail
   refine wp_region_lit ?_
   try simp only [gelS]
   refine wpList_chunk 2 (by kernel_rfl) ?_
   simp only [takS, Nat.reduceAdd]
   repeat (first | go_big_quiet_skip | (go_big_quiet_want; first | (refine quiet_loadAny (t := 90) rfl _ _ _ rfl (fun w hw => run_load_B (ov_B p9 w hw) Tryz.isAgg90 (by kernel_rfl)) (by rfl) ?_; simp only [putS]; go_big_quiet_on) | (refine quiet_loadAny (t := 86) rfl _ _ _ rfl (fun w hw => run_load_B (ov_B p2 w hw) Tryz.isAgg86 (by kernel_rfl)) (by rfl) ?_; simp only [putS]; go_big_quiet_on) | (go_big_quiet_op; go_big_quiet_on)))
   refine wpQuiet_nil ?_
   refine wpList_callF (by first | rfl | simp [Region.wanted, yielded]) rfl (enters_of Tryz.func60 (by kernel_rfl) rfl) (by simp only [Act.eval, evlS]; rfl) ?_
   refine (P_has r t ls th x' y' q1 false _ hI tk hn bx' by' b1 c1).mono ?_
   rintro e wn ⟨rfl, hbn⟩
   have hsz := B.size
   have hzn := hbn.size
   replace B := B.trans (hbn.mono B.size)
   (try replace p4 := p4.below hbn)
   (try replace p1 := p1.below hbn)
   (try replace p2 := p2.below hbn)
   (try replace HW := HW.below hbn)
   (try replace p9 := p9.below hbn)
   refine ⟨_, rfl, ?_⟩
   simp only [putS]
   refine wpList_nil ?_
   clear hI
   go_upto_region 9 with fail
   refine wp_region_lit ?_
   try simp only [gelS]
   refine wpList_chunk 2 (by kernel_rfl) ?_
   simp only [takS, Nat.reduceAdd]
   repeat (first | go_big_quiet_skip | (go_big_quiet_want; go_big_quiet_op; go_big_quiet_on))
   refine wpQuiet_nil ?_
   refine wpList_nil ?_
   clear p9 k9
   go_wp2
   rw [rounds_succ]
   go_upto_region 4 with fail
   refine wp_region_lit ?_
   try simp only [gelS]
   refine wpList_chunk 1 (by kernel_rfl) ?_
   simp only [takS, Nat.reduceAdd]
   repeat (first | go_big_quiet_skip | (go_big_quiet_want; go_big_quiet_op; go_big_quiet_on))
   refine wpQuiet_nil ?_
   refine wpList_nil ?_
   go_upto_region 5 with fail
   refine wp_region_lit ?_
   try simp only [gelS]
   refine wpList_chunk 2 (by kernel_rfl) ?_
   simp only [takS, Nat.reduceAdd]
   repeat (first | go_big_quiet_skip | (go_big_quiet_want; first | (refine quiet_indexA rfl #[.int .i64 1, .int .i64 0, .int .i64 3] rfl (1) rfl (.int .i64 (0)) (fun w => by kernel_rfl) ?_; simp only [putS]; go_big_quiet_on) | (go_big_quiet_op; go_big_quiet_on)))
   refine wpQuiet_nil ?_
   refine wpList_nil ?_
   go_upto_region 6 with fail
   refine wp_region_lit ?_
   try simp only [gelS]
   refine wpList_chunk 8 (by kernel_rfl) ?_
   simp only [takS, Nat.reduceAdd]
   repeat (first | go_big_quiet_skip | (go_big_quiet_want; first | (refine quiet_loadAny (t := 3) rfl _ _ _ rfl (fun w hw => run_load_int ((ov_B p4 w hw).cellL 2 rfl)) (by rfl) ?_; simp only [putS]; go_big_quiet_on) | (go_big_quiet_op; go_big_quiet_on)))
   refine wpQuiet_nil ?_
   (refine wpList_allocBk (t := 90) rfl _ (run_alloc_St _ _ rfl) ?_; intro b_p9 wn hle hge ht hbn hzn; have hsz := B.size; replace B := B.trans (hbn.mono (by omega)); have hln := Nat.lt_of_lt_of_eq (Nat.lt_succ_self _) hzn.symm; clear hzn; (try have hlt := p4.lt); (try replace p4 := p4.below (hbn.mono hle)); (try have hlt := p1.lt); (try replace p1 := p1.below (hbn.mono hle)); (try have hlt := p2.lt); (try replace p2 := p2.below (hbn.mono hle)); (try have hlt := HW.lt); (try replace HW := HW.below (hbn.mono hle)); have p9 := ht; clear ht; simp only [putS])
   (refine wpList_storeB (t := 90) rfl _ _ rfl _ rfl _ rfl p9 (by kernel_rfl) rfl (by simp [edC, Value.oneCell']) ?_; have p9o := p9; clear p9; intro wn ht hcn hzn; (try replace HW := HW.chg p9o (by omega) hcn); have hsz := B.size; replace hzn := Nat.le_of_eq hzn.symm; replace B := Exc.store B hcn (by omega); (try replace p4 := p4.of_eq (hcn.block _ p4.lt (by omega))); (try replace p1 := p1.of_eq (hcn.block _ p1.lt (by omega))); (try replace p2 := p2.of_eq (hcn.block _ p2.lt (by omega))); (try replace HW := HW.of_eq (hcn.block _ HW.lt (by omega))); have p9 := ht; clear ht; simp only [putS])
   refine wpList_nil ?_
   replace p9 : AtB 90 _ b_p9 #[.int .i64 x', .int .i64 y', .int .i64 d] := p9
   have hI := HI.out.hold HW
   have k9 := p9.lt
   go_upto_region 7 with fail
   refine wp_region_lit ?_
   try simp only [gelS]
   refine wpList_chunk 2 (by kernel_rfl) ?_
   simp only [takS, Nat.reduceAdd]
   repeat (first | go_big_quiet_skip | (go_big_quiet_want; first | (refine quiet_loadAny (t := 90) rfl _ _ _ rfl (fun w hw => run_load_B (ov_B p9 w hw) Tryz.isAgg90 (by kernel_rfl)) (by rfl) ?_; simp only [putS]; go_big_quiet_on) | (refine quiet_loadAny (t := 86) rfl _ _ _ rfl (fun w hw => run_load_B (ov_B p2 w hw) Tryz.isAgg86 (by kernel_rfl)) (by rfl) ?_; simp only [putS]; go_big_quiet_on) | (go_big_quiet_op; go_big_quiet_on)))
   refine wpQuiet_nil ?_
   refine wpList_callF (by first | rfl | simp [Region.wanted, yielded]) rfl (enters_of Tryz.func60 (by kernel_rfl) rfl) (by simp only [Act.eval, evlS]; rfl) ?_
   refine (P_has r t ls th x' y' d true _ hI tk hn bx' by' hd c2).mono ?_
   rintro e wn ⟨rfl, hbn⟩
   have hsz := B.size
   have hzn := hbn.size
   replace B := B.trans (hbn.mono B.size)
   (try replace p4 := p4.below hbn)
   (try replace p1 := p1.below hbn)
   (try replace p2 := p2.below hbn)
   (try replace HW := HW.below hbn)
   (try replace p9 := p9.below hbn)
   refine ⟨_, rfl, ?_⟩
   simp only [putS]
   refine wpList_nil ?_
   clear hI
   go_upto_region 8 with fail
   refine wp_region_lit ?_
   try simp only [gelS]
   refine wpList_chunk 1 (by kernel_rfl) ?_
   simp only [takS, Nat.reduceAdd]
   repeat (first | go_big_quiet_skip | (go_big_quiet_want; first | (refine quiet_loadAny (t := 90) rfl _ _ _ rfl (fun w hw => run_load_B (ov_B p9 w hw) Tryz.isAgg90 (by kernel_rfl)) (by rfl) ?_; simp only [putS]; go_big_quiet_on) | (go_big_quiet_op; go_big_quiet_on)))
   refine wpQuiet_nil ?_
   (refine wpList_storeB (t := 90) rfl _ _ rfl _ rfl _ rfl p4 (by kernel_rfl) rfl (by simp [edC, Value.oneCell']) ?_; have p4o := p4; clear p4; intro wn ht hcn hzn; (try replace HW := HW.chg p4o (by omega) hcn); have hsz := B.size; replace hzn := Nat.le_of_eq hzn.symm; replace B := Exc.chg B hcn; (try replace p1 := p1.of_eq (hcn.block _ p1.lt (by omega))); (try replace p2 := p2.of_eq (hcn.block _ p2.lt (by omega))); (try replace HW := HW.of_eq (hcn.block _ HW.lt (by omega))); (try replace p9 := p9.of_eq (hcn.block _ p9.lt (by omega))); have p4 := ht; clear ht; simp only [putS])
   refine wpList_nil ?_
   replace p4 : AtB 90 _ c #[.int .i64 x', .int .i64 y', .int .i64 d] := p4
   replace p4 : AtB 90 _ c (edC ⟨x', y', d⟩) := p4
   rw [← HD.out] at p4
   go_upto_region 10 with fail
   by_cases hlast : k + 1 = perE (setG ls th) R s
   ·have he2 := hend.out hlast
    have q2 : decide ((⟨x', y', d'⟩ : Ed) = s) = true := decide_eq_true he2
    refine wp_region_lit ?_
    try simp only [gelS]
    refine wpList_chunk 3 (by kernel_rfl) ?_
    simp only [takS, Nat.reduceAdd]
    repeat (first | go_big_quiet_skip | (go_big_quiet_want; first | (refine quiet_loadAny (t := 90) rfl _ _ _ rfl (fun w hw => run_load_B (ov_B p4 w hw) Tryz.isAgg90 (by kernel_rfl)) (by rfl) ?_; simp only [putS]; go_big_quiet_on) | (refine quiet_loadAny (t := 90) rfl _ _ _ rfl (fun w hw => run_load_B (ov_B p1 w hw) Tryz.isAgg90 (by kernel_rfl)) (by rfl) ?_; simp only [putS]; go_big_quiet_on) | (refine quiet_eqlS rfl ⟨x', y', d'⟩ s rfl rfl _ q2 ?_; simp only [putS]; go_big_quiet_on) | (go_big_quiet_op; go_big_quiet_on)))
    refine wpQuiet_nil ?_
    refine wpList_nil ?_
    go_wp2
    refine bodyPost_ret (results_none rfl _ _ _) rfl ?_
    exact ⟨⟨_, rfl⟩, _, rfl, by unfold folE; rw [← hlast]; exact HJ.out _ _ _ hJ1 B⟩
   ·have q2 : decide ((⟨x', y', d'⟩ : Ed) = s) = false := decide_eq_false (hgo.out (by omega))
    refine wp_region_lit ?_
    try simp only [gelS]
    refine wpList_chunk 3 (by kernel_rfl) ?_
    simp only [takS, Nat.reduceAdd]
    repeat (first | go_big_quiet_skip | (go_big_quiet_want; first | (refine quiet_loadAny (t := 90) rfl _ _ _ rfl (fun w hw => run_load_B (ov_B p4 w hw) Tryz.isAgg90 (by kernel_rfl)) (by rfl) ?_; simp only [putS]; go_big_quiet_on) | (refine quiet_loadAny (t := 90) rfl _ _ _ rfl (fun w hw => run_load_B (ov_B p1 w hw) Tryz.isAgg90 (by kernel_rfl)) (by rfl) ?_; simp only [putS]; go_big_quiet_on) | (refine quiet_eqlS rfl ⟨x', y', d'⟩ s rfl rfl _ q2 ?_; simp only [putS]; go_big_quiet_on) | (go_big_quiet_op; go_big_quiet_on)))
    refine wpQuiet_nil ?_
    refine wpList_nil ?_
    go_wp2
    have hR2 : ∃ k, (m - 1) + k = perE (setG ls th) R s ∧ 0 < (m - 1) ∧ J (orbK (setG ls th) s k) wn ∧ AtB 90 wn c (edC (orbE (setG ls th) s k)) ∧ AtB 90 wn bs (edC s) ∧ AtB 86 wn bb #[fB r t] ∧ HoldC wI.heap.size wI wn :=
     ⟨k + 1, by omega, by omega, HJ.out _ _ _ hJ1 B, by rw [HE'.out]; exact p4, p1, p2, HW⟩
    go_roundw
    case rel => exact ⟨_, hR2⟩
    case measure => exact Nat.lt_of_le_of_lt (eps_le hR2) (by omega)
  ·have HD := Lib.hid hd'
   clear hd'
   go_upto_region 4 with fail
   refine wp_region_lit ?_
   try simp only [gelS]
   refine wpList_chunk 1 (by kernel_rfl) ?_
   simp only [takS, Nat.reduceAdd]
   repeat (first | go_big_quiet_skip | (go_big_quiet_want; go_big_quiet_op; go_big_quiet_on))
   refine wpQuiet_nil ?_
   refine wpList_nil ?_
   go_upto_region 5 with fail
   refine wp_region_lit ?_
   try simp only [gelS]
   refine wpList_chunk 2 (by kernel_rfl) ?_
   simp only [takS, Nat.reduceAdd]
   repeat (first | go_big_quiet_skip | (go_big_quiet_want; first | (refine quiet_indexA rfl #[.int .i64 1, .int .i64 0, .int .i64 3] rfl (0) rfl (.int .i64 (1)) (fun w => by kernel_rfl) ?_; simp only [putS]; go_big_quiet_on) | (go_big_quiet_op; go_big_quiet_on)))
   refine wpQuiet_nil ?_
   refine wpList_nil ?_
   go_upto_region 6 with fail
   refine wp_region_lit ?_
   try simp only [gelS]
   refine wpList_chunk 8 (by kernel_rfl) ?_
   simp only [takS, Nat.reduceAdd]
   repeat (first | go_big_quiet_skip | (go_big_quiet_want; first | (refine quiet_loadAny (t := 3) rfl _ _ _ rfl (fun w hw => run_load_int ((ov_B p4 w hw).cellL 2 rfl)) (by rfl) ?_; simp only [putS]; go_big_quiet_on) | (go_big_quiet_op; go_big_quiet_on)))
   refine wpQuiet_nil ?_
   (refine wpList_allocBk (t := 90) rfl _ (run_alloc_St _ _ rfl) ?_; intro b_p9 wn hle hge ht hbn hzn; have hsz := B.size; replace B := B.trans (hbn.mono (by omega)); have hln := Nat.lt_of_lt_of_eq (Nat.lt_succ_self _) hzn.symm; clear hzn; (try have hlt := p4.lt); (try replace p4 := p4.below (hbn.mono hle)); (try have hlt := p1.lt); (try replace p1 := p1.below (hbn.mono hle)); (try have hlt := p2.lt); (try replace p2 := p2.below (hbn.mono hle)); (try have hlt := HW.lt); (try replace HW := HW.below (hbn.mono hle)); have p9 := ht; clear ht; simp only [putS])
   (refine wpList_storeB (t := 90) rfl _ _ rfl _ rfl _ rfl p9 (by kernel_rfl) rfl (by simp [edC, Value.oneCell']) ?_; have p9o := p9; clear p9; intro wn ht hcn hzn; (try replace HW := HW.chg p9o (by omega) hcn); have hsz := B.size; replace hzn := Nat.le_of_eq hzn.symm; replace B := Exc.store B hcn (by omega); (try replace p4 := p4.of_eq (hcn.block _ p4.lt (by omega))); (try replace p1 := p1.of_eq (hcn.block _ p1.lt (by omega))); (try replace p2 := p2.of_eq (hcn.block _ p2.lt (by omega))); (try replace HW := HW.of_eq (hcn.block _ HW.lt (by omega))); have p9 := ht; clear ht; simp only [putS])
   refine wpList_nil ?_
   replace p9 : AtB 90 _ b_p9 #[.int .i64 x', .int .i64 y', .int .i64 q1] := p9
   have hI := HI.out.hold HW
   have k9 := p9.lt
   go_upto_region 7 with fail
   refine wp_region_lit ?_
   try simp only [gelS]
   refine wpList_chunk 2 (by kernel_rfl) ?_
   simp only [takS, Nat.reduceAdd]
   repeat (first | go_big_quiet_skip | (go_big_quiet_want; first | (refine quiet_loadAny (t := 90) rfl _ _ _ rfl (fun w hw => run_load_B (ov_B p9 w hw) Tryz.isAgg90 (by kernel_rfl)) (by rfl) ?_; simp only [putS]; go_big_quiet_on) | (refine quiet_loadAny (t := 86) rfl _ _ _ rfl (fun w hw => run_load_B (ov_B p2 w hw) Tryz.isAgg86 (by kernel_rfl)) (by rfl) ?_; simp only [putS]; go_big_quiet_on) | (go_big_quiet_op; go_big_quiet_on)))
   refine wpQuiet_nil ?_
   refine wpList_callF (by first | rfl | simp [Region.wanted, yielded]) rfl (enters_of Tryz.func60 (by kernel_rfl) rfl) (by simp only [Act.eval, evlS]; rfl) ?_
   refine (P_has r t ls th x' y' q1 false _ hI tk hn bx' by' b1 c1).mono ?_
   rintro e wn ⟨rfl, hbn⟩
   have hsz := B.size
   have hzn := hbn.size
   replace B := B.trans (hbn.mono B.size)
   (try replace p4 := p4.below hbn)
   (try replace p1 := p1.below hbn)
   (try replace p2 := p2.below hbn)
   (try replace HW := HW.below hbn)
   (try replace p9 := p9.below hbn)
   refine ⟨_, rfl, ?_⟩
   simp only [putS]
   refine wpList_nil ?_
   clear hI
   go_upto_region 9 with fail
   refine wp_region_lit ?_
   try simp only [gelS]
   refine wpList_chunk 2 (by kernel_rfl) ?_
   simp only [takS, Nat.reduceAdd]
   repeat (first | go_big_quiet_skip | (go_big_quiet_want; go_big_quiet_op; go_big_quiet_on))
   refine wpQuiet_nil ?_
   refine wpList_nil ?_
   clear p9 k9
   go_wp2
   rw [rounds_succ]
   go_upto_region 4 with fail
   refine wp_region_lit ?_
   try simp only [gelS]
   refine wpList_chunk 1 (by kernel_rfl) ?_
   simp only [takS, Nat.reduceAdd]
   repeat (first | go_big_quiet_skip | (go_big_quiet_want; go_big_quiet_op; go_big_quiet_on))
   refine wpQuiet_nil ?_
   refine wpList_nil ?_
   go_upto_region 5 with fail
   refine wp_region_lit ?_
   try simp only [gelS]
   refine wpList_chunk 2 (by kernel_rfl) ?_
   simp only [takS, Nat.reduceAdd]
   repeat (first | go_big_quiet_skip | (go_big_quiet_want; first | (refine quiet_indexA rfl #[.int .i64 1, .int .i64 0, .int .i64 3] rfl (1) rfl (.int .i64 (0)) (fun w => by kernel_rfl) ?_; simp only [putS]; go_big_quiet_on) | (go_big_quiet_op; go_big_quiet_on)))
   refine wpQuiet_nil ?_
   refine wpList_nil ?_
   go_upto_region 6 with fail
   refine wp_region_lit ?_
   try simp only [gelS]
   refine wpList_chunk 8 (by kernel_rfl) ?_
   simp only [takS, Nat.reduceAdd]
   repeat (first | go_big_quiet_skip | (go_big_quiet_want; first | (refine quiet_loadAny (t := 3) rfl _ _ _ rfl (fun w hw => run_load_int ((ov_B p4 w hw).cellL 2 rfl)) (by rfl) ?_; simp only [putS]; go_big_quiet_on) | (go_big_quiet_op; go_big_quiet_on)))
   refine wpQuiet_nil ?_
   (refine wpList_allocBk (t := 90) rfl _ (run_alloc_St _ _ rfl) ?_; intro b_p9 wn hle hge ht hbn hzn; have hsz := B.size; replace B := B.trans (hbn.mono (by omega)); have hln := Nat.lt_of_lt_of_eq (Nat.lt_succ_self _) hzn.symm; clear hzn; (try have hlt := p4.lt); (try replace p4 := p4.below (hbn.mono hle)); (try have hlt := p1.lt); (try replace p1 := p1.below (hbn.mono hle)); (try have hlt := p2.lt); (try replace p2 := p2.below (hbn.mono hle)); (try have hlt := HW.lt); (try replace HW := HW.below (hbn.mono hle)); have p9 := ht; clear ht; simp only [putS])
   (refine wpList_storeB (t := 90) rfl _ _ rfl _ rfl _ rfl p9 (by kernel_rfl) rfl (by simp [edC, Value.oneCell']) ?_; have p9o := p9; clear p9; intro wn ht hcn hzn; (try replace HW := HW.chg p9o (by omega) hcn); have hsz := B.size; replace hzn := Nat.le_of_eq hzn.symm; replace B := Exc.store B hcn (by omega); (try replace p4 := p4.of_eq (hcn.block _ p4.lt (by omega))); (try replace p1 := p1.of_eq (hcn.block _ p1.lt (by omega))); (try replace p2 := p2.of_eq (hcn.block _ p2.lt (by omega))); (try replace HW := HW.of_eq (hcn.block _ HW.lt (by omega))); have p9 := ht; clear ht; simp only [putS])
   refine wpList_nil ?_
   replace p9 : AtB 90 _ b_p9 #[.int .i64 x', .int .i64 y', .int .i64 d] := p9
   have hI := HI.out.hold HW
   have k9 := p9.lt
   go_upto_region 7 with fail
   refine wp_region_lit ?_
   try simp only [gelS]
   refine wpList_chunk 2 (by kernel_rfl) ?_
   simp only [takS, Nat.reduceAdd]
   repeat (first | go_big_quiet_skip | (go_big_quiet_want; first | (refine quiet_loadAny (t := 90) rfl _ _ _ rfl (fun w hw => run_load_B (ov_B p9 w hw) Tryz.isAgg90 (by kernel_rfl)) (by rfl) ?_; simp only [putS]; go_big_quiet_on) | (refine quiet_loadAny (t := 86) rfl _ _ _ rfl (fun w hw => run_load_B (ov_B p2 w hw) Tryz.isAgg86 (by kernel_rfl)) (by rfl) ?_; simp only [putS]; go_big_quiet_on) | (go_big_quiet_op; go_big_quiet_on)))
   refine wpQuiet_nil ?_
   refine wpList_callF (by first | rfl | simp [Region.wanted, yielded]) rfl (enters_of Tryz.func60 (by kernel_rfl) rfl) (by simp only [Act.eval, evlS]; rfl) ?_
   refine (P_has r t ls th x' y' d false _ hI tk hn bx' by' hd c2).mono ?_
   rintro e wn ⟨rfl, hbn⟩
   have hsz := B.size
   have hzn := hbn.size
   replace B := B.trans (hbn.mono B.size)
   (try replace p4 := p4.below hbn)
   (try replace p1 := p1.below hbn)
   (try replace p2 := p2.below hbn)
   (try replace HW := HW.below hbn)
   (try replace p9 := p9.below hbn)
   refine ⟨_, rfl, ?_⟩
   simp only [putS]
   refine wpList_nil ?_
   clear hI
   go_upto_region 9 with fail
   refine wp_region_lit ?_
   try simp only [gelS]
   refine wpList_chunk 2 (by kernel_rfl) ?_
   simp only [takS, Nat.reduceAdd]
   repeat (first | go_big_quiet_skip | (go_big_quiet_want; go_big_quiet_op; go_big_quiet_on))
   refine wpQuiet_nil ?_
   refine wpList_nil ?_
   clear p9 k9
   go_wp2
   rw [rounds_succ]
   go_upto_region 4 with fail
   refine wp_region_lit ?_
   try simp only [gelS]
   refine wpList_chunk 1 (by kernel_rfl) ?_
   simp only [takS, Nat.reduceAdd]
   repeat (first | go_big_quiet_skip | (go_big_quiet_want; go_big_quiet_op; go_big_quiet_on))
   refine wpQuiet_nil ?_
   refine wpList_nil ?_
   go_upto_region 5 with fail
   refine wp_region_lit ?_
   try simp only [gelS]
   refine wpList_chunk 2 (by kernel_rfl) ?_
   simp only [takS, Nat.reduceAdd]
   repeat (first | go_big_quiet_skip | (go_big_quiet_want; first | (refine quiet_indexA rfl #[.int .i64 1, .int .i64 0, .int .i64 3] rfl (2) rfl (.int .i64 (3)) (fun w => by kernel_rfl) ?_; simp only [putS]; go_big_quiet_on) | (go_big_quiet_op; go_big_quiet_on)))
   refine wpQuiet_nil ?_
   refine wpList_nil ?_
   go_upto_region 6 with fail
   refine wp_region_lit ?_
   try simp only [gelS]
   refine wpList_chunk 8 (by kernel_rfl) ?_
   simp only [takS, Nat.reduceAdd]
   repeat (first | go_big_quiet_skip | (go_big_quiet_want; first | (refine quiet_loadAny (t := 3) rfl _ _ _ rfl (fun w hw => run_load_int ((ov_B p4 w hw).cellL 2 rfl)) (by rfl) ?_; simp only [putS]; go_big_quiet_on) | (go_big_quiet_op; go_big_quiet_on)))
   refine wpQuiet_nil ?_
   (refine wpList_allocBk (t := 90) rfl _ (run_alloc_St _ _ rfl) ?_; intro b_p9 wn hle hge ht hbn hzn; have hsz := B.size; replace B := B.trans (hbn.mono (by omega)); have hln := Nat.lt_of_lt_of_eq (Nat.lt_succ_self _) hzn.symm; clear hzn; (try have hlt := p4.lt); (try replace p4 := p4.below (hbn.mono hle)); (try have hlt := p1.lt); (try replace p1 := p1.below (hbn.mono hle)); (try have hlt := p2.lt); (try replace p2 := p2.below (hbn.mono hle)); (try have hlt := HW.lt); (try replace HW := HW.below (hbn.mono hle)); have p9 := ht; clear ht; simp only [putS])
   (refine wpList_storeB (t := 90) rfl _ _ rfl _ rfl _ rfl p9 (by kernel_rfl) rfl (by simp [edC, Value.oneCell']) ?_; have p9o := p9; clear p9; intro wn ht hcn hzn; (try replace HW := HW.chg p9o (by omega) hcn); have hsz := B.size; replace hzn := Nat.le_of_eq hzn.symm; replace B := Exc.store B hcn (by omega); (try replace p4 := p4.of_eq (hcn.block _ p4.lt (by omega))); (try replace p1 := p1.of_eq (hcn.block _ p1.lt (by omega))); (try replace p2 := p2.of_eq (hcn.block _ p2.lt (by omega))); (try replace HW := HW.of_eq (hcn.block _ HW.lt (by omega))); have p9 := ht; clear ht; simp only [putS])
   refine wpList_nil ?_
   replace p9 : AtB 90 _ b_p9 #[.int .i64 x', .int .i64 y', .int .i64 q3] := p9
   have hI := HI.out.hold HW
   have k9 := p9.lt
   go_upto_region 7 with fail
   refine wp_region_lit ?_
   try simp only [gelS]
   refine wpList_chunk 2 (by kernel_rfl) ?_
   simp only [takS, Nat.reduceAdd]
   repeat (first | go_big_quiet_skip | (go_big_quiet_want; first | (refine quiet_loadAny (t := 90) rfl _ _ _ rfl (fun w hw => run_load_B (ov_B p9 w hw) Tryz.isAgg90 (by kernel_rfl)) (by rfl) ?_; simp only [putS]; go_big_quiet_on) | (refine quiet_loadAny (t := 86) rfl _ _ _ rfl (fun w hw => run_load_B (ov_B p2 w hw) Tryz.isAgg86 (by kernel_rfl)) (by rfl) ?_; simp only [putS]; go_big_quiet_on) | (go_big_quiet_op; go_big_quiet_on)))
   refine wpQuiet_nil ?_
   refine wpList_callF (by first | rfl | simp [Region.wanted, yielded]) rfl (enters_of Tryz.func60 (by kernel_rfl) rfl) (by simp only [Act.eval, evlS]; rfl) ?_
   refine (P_has r t ls th x' y' q3 true _ hI tk hn bx' by' b3 c3).mono ?_
   rintro e wn ⟨rfl, hbn⟩
   have hsz := B.size
   have hzn := hbn.size
   replace B := B.trans (hbn.mono B.size)
   (try replace p4 := p4.below hbn)
   (try replace p1 := p1.below hbn)
   (try replace p2 := p2.below hbn)
   (try replace HW := HW.below hbn)
   (try replace p9 := p9.below hbn)
   refine ⟨_, rfl, ?_⟩
   simp only [putS]
   refine wpList_nil ?_
   clear hI
   go_upto_region 8 with fail
   refine wp_region_lit ?_
   try simp only [gelS]
   refine wpList_chunk 1 (by kernel_rfl) ?_
   simp only [takS, Nat.reduceAdd]
   repeat (first | go_big_quiet_skip | (go_big_quiet_want; first | (refine quiet_loadAny (t := 90) rfl _ _ _ rfl (fun w hw => run_load_B (ov_B p9 w hw) Tryz.isAgg90 (by kernel_rfl)) (by rfl) ?_; simp only [putS]; go_big_quiet_on) | (go_big_quiet_op; go_big_quiet_on)))
   refine wpQuiet_nil ?_
   (refine wpList_storeB (t := 90) rfl _ _ rfl _ rfl _ rfl p4 (by kernel_rfl) rfl (by simp [edC, Value.oneCell']) ?_; have p4o := p4; clear p4; intro wn ht hcn hzn; (try replace HW := HW.chg p4o (by omega) hcn); have hsz := B.size; replace hzn := Nat.le_of_eq hzn.symm; replace B := Exc.chg B hcn; (try replace p1 := p1.of_eq (hcn.block _ p1.lt (by omega))); (try replace p2 := p2.of_eq (hcn.block _ p2.lt (by omega))); (try replace HW := HW.of_eq (hcn.block _ HW.lt (by omega))); have p4 := ht; clear ht; simp only [putS])
   refine wpList_nil ?_
   replace p4 : AtB 90 _ c #[.int .i64 x', .int .i64 y', .int .i64 q3] := p4
   replace p4 : AtB 90 _ c (edC ⟨x', y', q3⟩) := p4
   rw [← HD.out] at p4
   go_upto_region 10 with fail
   by_cases hlast : k + 1 = perE (setG ls th) R s
   ·have he2 := hend.out hlast
    have q2 : decide ((⟨x', y', d'⟩ : Ed) = s) = true := decide_eq_true he2
    refine wp_region_lit ?_
    try simp only [gelS]
    refine wpList_chunk 3 (by kernel_rfl) ?_
    simp only [takS, Nat.reduceAdd]
    repeat (first | go_big_quiet_skip | (go_big_quiet_want; first | (refine quiet_loadAny (t := 90) rfl _ _ _ rfl (fun w hw => run_load_B (ov_B p4 w hw) Tryz.isAgg90 (by kernel_rfl)) (by rfl) ?_; simp only [putS]; go_big_quiet_on) | (refine quiet_loadAny (t := 90) rfl _ _ _ rfl (fun w hw => run_load_B (ov_B p1 w hw) Tryz.isAgg90 (by kernel_rfl)) (by rfl) ?_; simp only [putS]; go_big_quiet_on) | (refine quiet_eqlS rfl ⟨x', y', d'⟩ s rfl rfl _ q2 ?_; simp only [putS]; go_big_quiet_on) | (go_big_quiet_op; go_big_quiet_on)))
    refine wpQuiet_nil ?_
    refine wpList_nil ?_
    go_wp2
    refine bodyPost_ret (results_none rfl _ _ _) rfl ?_
    exact ⟨⟨_, rfl⟩, _, rfl, by unfold folE; rw [← hlast]; exact HJ.out _ _ _ hJ1 B⟩
   ·have q2 : decide ((⟨x', y', d'⟩ : Ed) = s) = false := decide_eq_false (hgo.out (by omega))
    refine wp_region_lit ?_
    try simp only [gelS]
    refine wpList_chunk 3 (by kernel_rfl) ?_
    simp only [takS, Nat.reduceAdd]
    repeat (first | go_big_quiet_skip | (go_big_quiet_want; first | (refine quiet_loadAny (t := 90) rfl _ _ _ rfl (fun w hw => run_load_B (ov_B p4 w hw) Tryz.isAgg90 (by kernel_rfl)) (by rfl) ?_; simp only [putS]; go_big_quiet_on) | (refine quiet_loadAny (t := 90) rfl _ _ _ rfl (fun w hw => run_load_B (ov_B p1 w hw) Tryz.isAgg90 (by kernel_rfl)) (by rfl) ?_; simp only [putS]; go_big_quiet_on) | (refine quiet_eqlS rfl ⟨x', y', d'⟩ s rfl rfl _ q2 ?_; simp only [putS]; go_big_quiet_on) | (go_big_quiet_op; go_big_quiet_on)))
    refine wpQuiet_nil ?_
    refine wpList_nil ?_
    go_wp2
    have hR2 : ∃ k, (m - 1) + k = perE (setG ls th) R s ∧ 0 < (m - 1) ∧ J (orbK (setG ls th) s k) wn ∧ AtB 90 wn c (edC (orbE (setG ls th) s k)) ∧ AtB 90 wn bs (edC s) ∧ AtB 86 wn bb #[fB r t] ∧ HoldC wI.heap.size wI wn :=
     ⟨k + 1, by omega, by omega, HJ.out _ _ _ hJ1 B, by rw [HE'.out]; exact p4, p1, p2, HW⟩
    go_roundw
    case rel => exact ⟨_, hR2⟩
    case measure => exact Nat.lt_of_le_of_lt (eps_le hR2) (by omega)
end Go.Proofs.YtamgpfblhlfhaaaGreat
/- The map of the edges that are done; marks of several ranges. -/
namespace Go.Proofs.YtamgpfblhlfhaaaGreat
open Go.RowKit Go.Shelf Pl
set_option linter.unusedVariables false
set_option linter.unusedSimpArgs false
set_option maxRecDepth 20000
theorem laidP : laidOutB Tryz.prog = true := by kernel_rfl
theorem stepK : Go.Maps.Keyed Tryz.prog 90 := Go.Maps.Keyed.of_law (deep_law_gate laidP (of_decide_eq_true (by kernel_rfl)) (of_decide_eq_true (by kernel_rfl)) (by kernel_rfl) (by rw [Tryz.underlying90]))
def keyE (e : Ed) : Lit := .string (keyBytes [.int .i64 e.x, .int .i64 e.y, .int .i64 e.d])
def WfE (e : Ed) : Prop := (Lit.int .i64 e.x).wf = true ∧ (Lit.int .i64 e.y).wf = true ∧ (Lit.int .i64 e.d).wf = true
theorem key_at {e : Ed} (h : WfE e) : keyOf Tryz.prog 90 (.agg (edC e)) = some (keyE e) := by
 obtain ⟨h1, h2, h3⟩ := h
 have ht : Tryz.prog.keyType 90 = true := by kernel_rfl
 have hc : Tryz.prog.cellsOf 90 = 3 := by kernel_rfl
 have hi : Tryz.prog.cellsOf 3 = 1 := by kernel_rfl
 unfold keyOf
 rw [Tryz.underlying90]
 simp only [ht]
 have hf : (Value.agg (edC e)).formed Tryz.prog 90 = true := by simp [Value.formed, Tryz.underlying90, hc, edC]
 rw [hf]
 have hpos : 1 ≤ Tryz.prog.types.size := of_decide_eq_true (by kernel_rfl)
 obtain ⟨M, hM⟩ : ∃ M, Tryz.prog.types.size = M + 1 := ⟨Tryz.prog.types.size - 1, by omega⟩
 rw [hM]
 simp only [Bool.and_self, if_true, Program.keyLits, Tryz.underlying90, hc]
 simp [edC, Value.cells, hi, Tryz.underlying3, h1, h2, h3, keyE]
theorem key_inj {e f : Ed} (he : WfE e) (hf : WfE f) (h : keyE e = keyE f) : e = f := by
 have h1 := key_at he
 rw [h] at h1
 have := stepK.inj h1 (key_at hf)
 obtain ⟨x, y, d⟩ := e
 obtain ⟨x', y', d'⟩ := f
 simpa [edC] using this
/-- The block b is the map of the edges L. -/
def DoneM (b : Nat) (L : List Ed) (w : World) : Prop := (∀ e ∈ L, WfE e) ∧ ∃ n, n ≤ L.length ∧ w.ownsMap Tryz.prog 90 (plainElem (H := Unit) Tryz.prog 4) b n (Maps.setOf (.lit (.bool true)) (L.map keyE))
theorem DoneM.lt {b : Nat} {L : List Ed} {w : World} (h : DoneM b L w) : b < w.heap.size := by
 obtain ⟨_, n, _, h⟩ := h
 exact h.lt
theorem DoneM.kept {b : Nat} {L : List Ed} {w w' : World} {row : Option Nat} (h : DoneM b L w) (hg : w.grownBy w' row) (hne : some b ≠ row) : DoneM b L w' := by
 obtain ⟨h1, n, h2, h⟩ := h
 exact ⟨h1, n, h2, h.kept hg hne⟩
theorem DoneM.below {b : Nat} {L : List Ed} {w w' : World} (h : DoneM b L w) (hb : Below w.heap.size w w') : DoneM b L w' := h.kept (grown_of_below hb) (fun e => by cases e)
theorem DoneM.obj {b : Nat} {L : List Ed} {w : World} (h : DoneM b L w) : ∃ es c, w.heap[b]? = some (.map es c) := by
 obtain ⟨_, n, _, es, c, h, _⟩ := h
 exact ⟨es, c, h⟩
theorem DoneM.chg {b c : Nat} {L : List Ed} {t : TypeId} {cs : Array Value} {w w' : World} (h : DoneM b L w) (ha : AtB t w c cs) (_ : True) (hc : Chg c w w') : DoneM b L w' :=
 h.kept (row := some c) ⟨hc.os, hc.tape, hc.output, hc.size, fun k hk hne => hc.block k hk (fun e => hne (by rw [e]))⟩ (fun e => by
  injection e with e
  obtain ⟨es, cl, ho⟩ := h.obj
  rw [e, show w.heap[c]? = _ from ha] at ho
  cases ho)
theorem DoneM.nil {b : Nat} {w : World} (h : w.heap[b]? = some (.map #[] 0)) : DoneM b [] w := ⟨fun e he => (by cases he), 0, Nat.le_refl _, Go.Joins.ownsMap_empty h⟩
theorem atKey_fold (u z : DataW Unit) (k : Lit) : ∀ (acc : List Lit) (m : DataW Unit), Maps.IsMap m → (∀ x ∈ acc, WideAt.IsKeyLit x) → (k ∈ acc → (acc.foldl (fun m x => m.put x u) m).atKey k z = u) ∧ (k ∉ acc → (acc.foldl (fun m x => m.put x u) m).atKey k z = m.atKey k z)
 | [], m, _, _ => ⟨fun h => (by cases h), fun _ => rfl⟩
 | x :: r, m, hm, h => by
  rw [List.foldl_cons]
  obtain ⟨i1, i2⟩ := atKey_fold u z k r (m.put x u) (hm.put x u) (fun y hy => h y (by simp [hy]))
  refine ⟨fun hk => ?_, fun hk => ?_⟩
  ·by_cases hr : k ∈ r
   ·exact i1 hr
   ·rw [i2 hr]
    rcases List.mem_cons.1 hk with e | e
    ·subst e
     exact Maps.atKey_put_same hm (h k (by simp)) u z
    ·exact absurd e hr
  ·rw [i2 (fun hr => hk (List.mem_cons_of_mem _ hr)), Maps.atKey_put_other (fun e => hk (by rw [e]; simp))]
theorem atKey_done {L : List Ed} {e : Ed} (hL : ∀ f ∈ L, WfE f) (he : WfE e) : (Maps.setOf (.lit (.bool true)) (L.map keyE) : DataW Unit).atKey (keyE e) (.lit (.bool false)) = .lit (.bool (decide (e ∈ L))) := by
 unfold Maps.setOf
 obtain ⟨i1, i2⟩ := atKey_fold (.lit (.bool true)) (.lit (.bool false)) (keyE e) (L.map keyE) (.map []) Maps.isMap_empty (fun x hx => by
  obtain ⟨f, hf, rfl⟩ := List.mem_map.1 hx
  exact stepK.key (key_at (hL f hf)))
 by_cases h : e ∈ L
 ·rw [i1 (List.mem_map.2 ⟨e, h, rfl⟩), decide_eq_true h]
 ·rw [i2 (fun hm => by
   obtain ⟨f, hf, hk⟩ := List.mem_map.1 hm
   exact h (key_inj (hL f hf) he hk ▸ hf)), decide_eq_false h]
  rfl
theorem DoneM.look {b : Nat} {L : List Ed} {w : World} (h : DoneM b L w) {e : Ed} (he : WfE e) : (Instr.lookup 87 (.map (some b)) (.agg (edC e)) false).run Tryz.prog w = .ok (.bool (decide (e ∈ L))) w := by
 obtain ⟨h1, n, _, ho⟩ := h
 obtain ⟨v, ps, hr, hv⟩ := ho.lookup (t := 87) (e := 4) stepK Tryz.underlying87 (z := .bool false) (by kernel_rfl) (zd := .lit (.bool false)) (zp := []) (by unfold plainElem; rw [Tryz.underlying4]) (key_at he)
 rw [atKey_done h1 he] at hv
 rw [hr]
 unfold plainElem at hv
 rw [Tryz.underlying4] at hv
 cases v <;> simp at hv
 rw [hv.1]
section
variable {ops : Array Oper} {rest : List Oper} {o : Oper} {a : Act} {w : World} {Q : Exit → Act → World → Prop}
theorem wpList_done (hg : o.guard = none) (m x : Operand) (hop : o.op = .mapUpdate 87 m x (.const (.bool true))) {b : Nat} {L : List Ed} (hm : a.eval m = .map (some b)) (hd : DoneM b L w) (e : Ed) (hx : a.eval x = .agg (edC e)) (he : WfE e) (hn : L.length < maxLen)
  (h : ∀ w', DoneM b (L ++ [e]) w' → w.grownBy w' (some b) → wpList Tryz.prog ops Q rest (a.put o.dst undef) w') : wpList Tryz.prog ops Q (o :: rest) a w := by
 obtain ⟨h1, n, hnl, ho⟩ := hd
 refine wpList_mapUpdate_own (H := Unit) w hg m x (.const (.bool true)) 87 hop 90 4 stepK Tryz.underlying87 _ b n _ hm ho (by omega) _ (.bool true) _ hx rfl (key_at he) (.lit (.bool true)) [] (by unfold plainElem; rw [Tryz.underlying4]) fun w' h2 h3 => h w' ⟨fun f hf => ?_, n + 1, by rw [List.length_append]; simp; omega, ?_⟩ h3
 ·rcases List.mem_append.1 hf with hf | hf
  ·exact h1 f hf
  ·rw [List.mem_singleton.1 hf]; exact he
 ·rw [List.map_append, List.map_singleton, Maps.setOf_snoc]
  exact h2
end
/-! ### Marks -/
/-- The marks that ranges have left: blocks from n on, each another. -/
def Marks (n : Nat) : List Deferred → World → Prop
 | [], _ => True
 | d :: ds, w => (∃ D, d = { target := .collected D, args := #[] } ∧ n ≤ D ∧ DefAt w D ∧ ∀ D', { target := .collected D', args := #[] } ∈ ds → D' ≠ D) ∧ Marks n ds w
theorem Marks.kept {n : Nat} {w w' : World} : ∀ {ds : List Deferred}, Marks n ds w → (∀ D, DefAt w D → { target := .collected D, args := #[] } ∈ ds → DefAt w' D) → Marks n ds w'
 | [], _, _ => trivial
 | d :: ds, ⟨⟨D, e, hn, hD, hne⟩, h⟩, hk => ⟨⟨D, e, hn, hk D hD (by rw [e]; simp), hne⟩, Marks.kept h (fun D' h1 h2 => hk D' h1 (by simp [h2]))⟩
theorem Marks.below {n : Nat} {w w' : World} {ds : List Deferred} (h : Marks n ds w) (hb : Below w.heap.size w w') : Marks n ds w' := h.kept fun D hD _ => hD.of_eq (hb.block _ hD.lt)
theorem Marks.chg {n c : Nat} {ds : List Deferred} {t : TypeId} {cs : Array Value} {w w' : World} (h : Marks n ds w) (ha : AtB t w c cs) (_ : True) (hc : Chg c w w') : Marks n ds w' := h.kept fun D hD _ => hD.of_eq (hc.block _ hD.lt (fun e => hD.ne ha e.symm))
theorem Marks.lt {n : Nat} {w : World} : ∀ {ds : List Deferred}, Marks n ds w → ∀ D, { target := .collected D, args := #[] } ∈ ds → D < w.heap.size
 | d :: ds, ⟨⟨D, e, hn, hD, hne⟩, h⟩, D', hm => by
  rcases List.mem_cons.1 hm with hm | hm
  ·rw [e] at hm
   simp at hm
   rw [hm]; exact hD.lt
  ·exact Marks.lt h D' hm
theorem Marks.leaves {F : Fence} {m : Nat} {P : Program} {fn : Func} {tmps : Array Value} {R : Ending → World → Prop} {n : Nat} {I : World → Prop} (hI : ∀ w D, n ≤ D → DefAt w D → I w → I (w.putObj D (.deferred none))) (hR : ∀ w, I w → LeavesIn F m P fn tmps R [] .returning w) :
  ∀ {ds : List Deferred} {w : World}, Marks n ds w → I w → LeavesInM F m P fn tmps R ds .returning w
 | [], w, _, h => hR w h
 | d :: ds, w, ⟨⟨D, e, hn, hD, hne⟩, h⟩, hi => by
  refine ⟨by simp, .inl ⟨D, _, by rw [e], run_takeDeferred hD, ?_⟩⟩
  refine Marks.leaves hI hR (h.kept fun D' h1 h2 => ?_) (hI w D hn hD hi)
  exact (World.putObj_heap_other (hne D' h2)).trans h1
/- Lists of edges; lists of polygons: slices of slices that the call owns. -/
def edE : Elt Ed 3 90 92 where
 enc := edC
 bytes := 24
 zero := ⟨0, 0, 0⟩
 size := fun _ => rfl
 one := fun x u hu => by
  have : u ∈ [Value.int .i64 x.x, .int .i64 x.y, .int .i64 x.d] := hu
  rcases List.mem_cons.1 this with rfl | this
  ·rfl
  ·rcases List.mem_cons.1 this with rfl | this
   ·rfl
   ·rw [List.mem_singleton.1 this]; rfl
 pos := by omega
 small := by omega
 und := Tryz.underlying92
 info := by kernel_rfl
 zer := by kernel_rfl
structure Slc where
 a : Option Addr
 n : Nat
 c : Nat
def Slc.v (s : Slc) : Value := .slice s.a s.n s.c
def slE : Elt Slc 1 22 55 where
 enc := fun s => #[s.v]
 bytes := 24
 zero := ⟨none, 0, 0⟩
 size := fun _ => rfl
 one := fun x u hu => by
  have : u ∈ [x.v] := hu
  rw [List.mem_singleton.1 this]; rfl
 pos := by omega
 small := by omega
 und := Tryz.underlying55
 info := by kernel_rfl
 zer := by kernel_rfl
section
variable {α β : Type} {k k' : Nat} {T ST T' ST' : TypeId} {E : Elt α k T ST} {E' : Elt β k' T' ST'} {B B' : Nat} {v v' : Value} {ls : List α} {ls' : List β} {w w' : World}
theorem OwnE.kept {row : Option Nat} (h : OwnE E B v ls w) (hg : w.grownBy w' row) (hne : v.ownBlock = none ∨ v.ownBlock ≠ row) : OwnE E B v ls w' := World.ownsRow.kept h hg hne
theorem OwnE.obj {g : Nat} (h : OwnE E B v ls w) (hv : v.ownBlock = some g) : ∃ cur, w.heap[g]? = some (.cells cur T (0, 0)) := by
 obtain ⟨_, h2⟩ := h
 rcases h2 with ⟨rfl, _⟩ | ⟨g', cap, cur, rfl, _, hg, _⟩
 ·cases hv
 ·have : g' = g := by simpa [Value.ownBlock] using hv
  rw [← this]
  exact ⟨cur, hg⟩
theorem OwnE.ne_obj {o : Obj} {r : Nat} (h : OwnE E B v ls w) (hr : w.heap[r]? = some o) (hT : ∀ cur, o ≠ .cells cur T (0, 0)) : v.ownBlock = none ∨ v.ownBlock ≠ some r := by
 cases hv : v.ownBlock with
 | none => exact .inl rfl
 | some g =>
  right
  intro e
  injection e with e
  obtain ⟨cur, hc⟩ := h.obj hv
  rw [e, hr] at hc
  injection hc with hc
  exact hT cur hc
theorem OwnE.ne_of (hT : T ≠ T') (h : OwnE E B v ls w) (h' : OwnE E' B' v' ls' w) : v.ownBlock = none ∨ v.ownBlock ≠ v'.ownBlock := by
 cases hv' : v'.ownBlock with
 | none =>
  cases hv : v.ownBlock with
  | none => exact .inl rfl
  | some g => exact .inr (by simp)
 | some r =>
  obtain ⟨cur, hc⟩ := h'.obj hv'
  exact h.ne_obj hc (fun cur' e => by
   injection e with _ e
   exact hT e.symm)
theorem OwnE.blk (h : OwnE E B v ls w) {g : Nat} (hv : v.ownBlock = some g) : B ≤ g ∧ g < w.heap.size := World.ownsRow.lt h g hv
variable {ops : Array Oper} {rest : List Oper} {o : Oper} {a : Act} {Q : Exit → Act → World → Prop}
/-- A slice appended to a row of the call's own: which block is turned. -/
theorem wpList_appendXB (hg : o.guard = none) (s x : Operand) (ho : o.op = .call { callee := .builtin .append, args := #[s, x], argTypes := #[ST, ST] }) (v u : Value) (hs : a.eval s = v) (hx : a.eval x = u) {ks : List α} (hown : OwnE E B v ls w) (hu : RSE E u ks w) (hks : 0 < ks.length) (hlen : ls.length + ks.length ≤ maxLen) (hby' : (ls.length + ks.length) * E.bytes ≤ 140737488355328) (hB : B ≤ w.heap.size)
  (h : ∀ v' w', OwnE E B v' (ls ++ ks) w' → w.grownBy w' v.ownBlock → wpList Tryz.prog ops Q rest (a.put o.dst v') w') : wpList Tryz.prog ops Q (o :: rest) a w := by
 obtain ⟨i, z, hi, hz, hsz, hby, hzc⟩ := E.facts
 have hzs : z.cells.size = k := by rw [hzc, E.size]
 obtain ⟨ad, c, rfl, hc⟩ := hu.len
 obtain ⟨g, of, rfl, sc⟩ := hu.at hks
 refine wpList_append_own (P := Tryz.prog) w hg s x ST ho B T i z k E.bytes E.und hi hz hsz hby hzs E.pos v ls.length (rowE E ls) hs hown ⟨g, of, none⟩ ks.length c (rowE E ks) hx (rowE_length E ks) ?_ (rowE_oneCell E ks) hlen hby' hB ?_
 ·intro j u hu
  have e : (⟨g, of, none⟩ : Addr).add j = ⟨g, of + j, none⟩ := by unfold Addr.add; split <;> simp_all
  rw [e]
  exact sc.row j u hu
 ·intro v' w' h1 h2 h3
  refine h v' w' ?_ h2
  unfold OwnE
  rw [rowE_append, List.length_append]
  exact h1
/-- A slice appended to a row of the call's own: which block is turned. -/
theorem wpList_appendX (hg : o.guard = none) (s x : Operand) (ho : o.op = .call { callee := .builtin .append, args := #[s, x], argTypes := #[ST, ST] }) (v u : Value) (hs : a.eval s = v) (hx : a.eval x = u) {ks : List α} (hown : OwnE E B v ls w) (hu : RSE E u ks w) (hks : 0 < ks.length) (hlen : ls.length + ks.length ≤ 100000000) (hB : B ≤ w.heap.size)
  (h : ∀ v' w', OwnE E B v' (ls ++ ks) w' → w.grownBy w' v.ownBlock → wpList Tryz.prog ops Q rest (a.put o.dst v') w') : wpList Tryz.prog ops Q (o :: rest) a w := by
 refine wpList_appendXB hg s x ho v u hs hx hown hu hks (by unfold maxLen; omega) ?_ hB h
 have := Nat.mul_le_mul hlen E.small
 omega
end
/-- v is a list of the polygons P: rows that the call owns. -/
def OwnP (B : Nat) (v : Value) (P : List (List Pnt)) (w : World) : Prop := ∃ vs : List Slc, OwnE slE B v vs w ∧ vs.length = P.length ∧ ∀ (i : Nat) (s : Slc) (l : List Pnt), vs[i]? = some s → P[i]? = some l → OwnE ptE B s.v l w
/-- v is a list of the polygons P. -/
def RPoly (v : Value) (P : List (List Pnt)) (w : World) : Prop := ∃ vs : List Slc, RSE slE v vs w ∧ vs.length = P.length ∧ ∀ (i : Nat) (s : Slc) (l : List Pnt), vs[i]? = some s → P[i]? = some l → RSE ptE s.v l w
section
variable {B : Nat} {v : Value} {P : List (List Pnt)} {w w' : World}
theorem OwnP.nil (B : Nat) (w : World) : OwnP B (.slice none 0 0) [] w := ⟨[], OwnE.nil B w, rfl, fun i s l h => (by simp at h)⟩
theorem OwnP.kept {row : Option Nat} (h : OwnP B v P w) (hg : w.grownBy w' row) (hr : ∀ r, row = some r → ∃ o : Obj, w.heap[r]? = some o ∧ (∀ cur, o ≠ .cells cur 22 (0, 0)) ∧ ∀ cur, o ≠ .cells cur 53 (0, 0)) : OwnP B v P w' := by
 obtain ⟨vs, h1, h2, h3⟩ := h
 have key : ∀ {α : Type} {k : Nat} {T ST : TypeId} {E : Elt α k T ST} {v : Value} {ls : List α}, OwnE E B v ls w → (∀ r, row = some r → ∃ o : Obj, w.heap[r]? = some o ∧ ∀ cur, o ≠ .cells cur T (0, 0)) → OwnE E B v ls w' := fun ho hrr => by
  refine ho.kept hg ?_
  cases hrow : row with
  | none =>
   rename_i v _
   cases hv : v.ownBlock with
   | none => exact .inl rfl
   | some g => exact .inr (by simp)
  | some r =>
   obtain ⟨o, h4, h5⟩ := hrr r hrow
   exact ho.ne_obj h4 h5
 exact ⟨vs, key h1 (fun r e => let ⟨o, a, b, _⟩ := hr r e; ⟨o, a, b⟩), h2, fun i s l a b => key (h3 i s l a b) (fun r e => let ⟨o, a, _, b⟩ := hr r e; ⟨o, a, b⟩)⟩
theorem OwnP.below (h : OwnP B v P w) (hb : Below w.heap.size w w') : OwnP B v P w' := h.kept (grown_of_below hb) (fun r e => by cases e)
theorem OwnP.mono {B' : Nat} (h : OwnP B v P w) (hb : B' ≤ B) : OwnP B' v P w := by
 obtain ⟨vs, h1, h2, h3⟩ := h
 exact ⟨vs, h1.mono hb, h2, fun i s l a b => (h3 i s l a b).mono hb⟩
theorem OwnP.len (h : OwnP B v P w) : ∃ a c, v = .slice a P.length c ∧ P.length ≤ c := by
 obtain ⟨vs, h1, h2, h3⟩ := h
 rw [← h2]
 exact h1.len
theorem OwnP.blk (h : OwnP B v P w) {g : Nat} (hv : v.ownBlock = some g) : B ≤ g ∧ g < w.heap.size ∧ ∃ cur, w.heap[g]? = some (.cells cur 22 (0, 0)) := by
 obtain ⟨vs, h1, h2, h3⟩ := h
 exact ⟨(h1.blk hv).1, (h1.blk hv).2, h1.obj hv⟩
theorem OwnP.rs (h : OwnP B v P w) : RPoly v P w := by
 obtain ⟨vs, h1, h2, h3⟩ := h
 exact ⟨vs, h1.rs, h2, fun i s l a b => (h3 i s l a b).rs⟩
theorem RPoly.below (h : RPoly v P w) (hb : Below w.heap.size w w') : RPoly v P w' := by
 obtain ⟨vs, h1, h2, h3⟩ := h
 exact ⟨vs, h1.below hb, h2, fun i s l a b => (h3 i s l a b).below hb⟩
theorem RPoly.len (h : RPoly v P w) : ∃ a c, v = .slice a P.length c ∧ P.length ≤ c := by
 obtain ⟨vs, h1, h2, h3⟩ := h
 rw [← h2]
 exact h1.len
variable {ops : Array Oper} {rest : List Oper} {o : Oper} {a : Act} {Q : Exit → Act → World → Prop}
/-- A polygon appended. -/
theorem wpList_appendP (hg : o.guard = none) (s x : Operand) (ho : o.op = .call { callee := .builtin .append, args := #[s, x], argTypes := #[55, 55] }) (v : Value) (hs : a.eval s = v) (sl : Slc) (l : List Pnt) {b : Nat} (hx : a.eval x = .slice (some ⟨b, 0, none⟩) 1 1) (hown : OwnP B v P w) (hb : AtB 22 w b #[sl.v]) (hl : OwnE ptE B sl.v l w) (hlen : P.length + 1 ≤ 100000000) (hB : B ≤ w.heap.size)
  (h : ∀ v' w', OwnP B v' (P ++ [l]) w' → w.grownBy w' v.ownBlock → wpList Tryz.prog ops Q rest (a.put o.dst v') w') : wpList Tryz.prog ops Q (o :: rest) a w := by
 obtain ⟨vs, h1, h2, h3⟩ := hown
 refine wpList_appendX (E := slE) hg s x ho v _ hs hx h1 (RSE.one (E := slE) (x := sl) hb) (by simp) (by rw [h2]; simpa using hlen) hB fun v' w' h4 h5 => h v' w' ⟨vs ++ [sl], h4, by simp [h2], fun i s l' hi hl' => ?_⟩ h5
 rw [List.getElem?_append] at hi hl'
 by_cases hlt : i < vs.length
 ·rw [if_pos hlt] at hi
  rw [if_pos (by omega)] at hl'
  exact (h3 i s l' hi hl').kept h5 ((h3 i s l' hi hl').ne_of (by decide) h1)
 ·rw [if_neg hlt] at hi
  rw [if_neg (by omega)] at hl'
  have e : i - vs.length = 0 := by
   have := (List.getElem?_eq_some_iff.1 hi).1
   simp at this
   omega
  rw [e] at hi
  rw [show i - P.length = 0 by omega] at hl'
  have e1 : sl = s := by simpa using hi
  have e2 : l = l' := by simpa using hl'
  subst e1 e2
  exact hl.kept h5 (hl.ne_of (by decide) h1)
end
end Go.Proofs.YtamgpfblhlfhaaaGreat
/- Plain: how many edges, how many polygons a scan has. -/
namespace Go.Proofs.YtamgpfblhlfhaaaGreat
open Go.RowKit Pl
set_option linter.unusedVariables false
set_option linter.unusedSimpArgs false
theorem scan1_len {S : Int → Int → Bool} {r : Rc} (hb : BoxE S r) (st : ScSt) (x y : Int) : (scan1 S r st x y).1.length ≤ st.1.length + boxN r ∧ (scan1 S r st x y).2.length ≤ st.2.length + 1 := by
 unfold scan1
 by_cases h : (decide ((⟨x, y, 0⟩ : Ed) ∈ st.1) || !hasE S x y 0) = true
 ·rw [if_pos h]; omega
 ·rw [if_neg h]
  simp only [Bool.or_eq_true, not_or, Bool.not_eq_true', Bool.not_eq_false] at h
  have hB : Bnd S ⟨x, y, 0⟩ := ⟨⟨Int.le_refl _, by show (0 : Int) ≤ 3; omega⟩, h.2⟩
  have := (perE_spec hb hB).2.2.1
  simp only [List.length_append, List.length_cons, List.length_nil]
  unfold folE
  rw [orbK_len]
  omega
theorem scanX_len {S : Int → Int → Bool} {r : Rc} (hb : BoxE S r) (y : Int) (st : ScSt) : ∀ k, (scanX S r y st k).1.length ≤ st.1.length + k * boxN r ∧ (scanX S r y st k).2.length ≤ st.2.length + k
 | 0 => by show st.1.length ≤ _ ∧ st.2.length ≤ _; omega
 | k + 1 => by
  have ih := scanX_len hb y st k
  have h1 := scan1_len hb (scanX S r y st k) (r.x0 + (k : Int)) y
  show (scan1 S r (scanX S r y st k) (r.x0 + (k : Int)) y).1.length ≤ _ ∧ _
  rw [Nat.succ_mul]
  exact ⟨by omega, by have h2 := h1.2; show (scan1 S r (scanX S r y st k) (r.x0 + (k : Int)) y).2.length ≤ _; omega⟩
theorem scanY_len {S : Int → Int → Bool} {r : Rc} (hb : BoxE S r) : ∀ k, (scanY S r k).1.length ≤ k * ((r.x1 - r.x0).toNat * boxN r) ∧ (scanY S r k).2.length ≤ k * (r.x1 - r.x0).toNat
 | 0 => by show (0 : Nat) ≤ _ ∧ (0 : Nat) ≤ _; omega
 | k + 1 => by
  have ih := scanY_len hb k
  have h1 := scanX_len hb (r.y0 + (k : Int)) (scanY S r k) (r.x1 - r.x0).toNat
  show (scanX S r (r.y0 + (k : Int)) (scanY S r k) (r.x1 - r.x0).toNat).1.length ≤ _ ∧ (scanX S r (r.y0 + (k : Int)) (scanY S r k) (r.x1 - r.x0).toNat).2.length ≤ _
  rw [Nat.succ_mul, Nat.succ_mul]
  omega
/-- In a small box. -/
theorem box_small {r : Rc} (h : -100 ≤ r.x0 ∧ r.x1 ≤ 100 ∧ -100 ≤ r.y0 ∧ r.y1 ≤ 100) : boxN r ≤ 161604 ∧ (r.x1 - r.x0).toNat ≤ 200 ∧ (r.y1 - r.y0).toNat ≤ 200 := by
 have h1 : (r.x1 - r.x0).toNat ≤ 200 := by omega
 have h2 : (r.y1 - r.y0).toNat ≤ 200 := by omega
 refine ⟨?_, h1, h2⟩
 unfold boxN
 have h3 := Nat.mul_le_mul (show 4 * ((r.x1 - r.x0).toNat + 1) ≤ 804 by omega) (show (r.y1 - r.y0).toNat + 1 ≤ 201 by omega)
 omega
theorem scan_small {S : Int → Int → Bool} {r : Rc} (hb : BoxE S r) (h : -100 ≤ r.x0 ∧ r.x1 ≤ 100 ∧ -100 ≤ r.y0 ∧ r.y1 ≤ 100) {i j : Nat} (hi : i ≤ (r.y1 - r.y0).toNat) (hj : j ≤ (r.x1 - r.x0).toNat) (y : Int) :
  (scanX S r y (scanY S r i) j).1.length ≤ 7000000000 ∧ (scanX S r y (scanY S r i) j).2.length ≤ 50000 := by
 obtain ⟨b1, b2, b3⟩ := box_small h
 have h1 := scanX_len hb y (scanY S r i) j
 have h2 := scanY_len hb i
 have m1 : j * boxN r ≤ 200 * 161604 := Nat.mul_le_mul (by omega) b1
 have m2 : (r.x1 - r.x0).toNat * boxN r ≤ 200 * 161604 := Nat.mul_le_mul b2 b1
 have m3 : i * ((r.x1 - r.x0).toNat * boxN r) ≤ 200 * (200 * 161604) := Nat.mul_le_mul (by omega) m2
 have m4 : i * (r.x1 - r.x0).toNat ≤ 200 * 200 := Nat.mul_le_mul (by omega) b2
 omega
/-- The direction that is tried j-th. -/
def dirF (d : Int) (j : Nat) : Int := (d + 1 + 3 * (j : Int)) % 4
/-- The first direction, of those tried so far, in which an edge goes on; -1 where none does. -/
def nxF (S : Int → Int → Bool) (x y d : Int) : Nat → Int
 | 0 => -1
 | j + 1 => if (hasE S x y (dirF d j) && decide (nxF S x y d j < 0)) = true then dirF d j else nxF S x y d j
end Go.Proofs.YtamgpfblhlfhaaaGreat
/- For Outline: blocks for a map, for a list of edges; what a range over edges leaves as it was. -/
namespace Go.Proofs.YtamgpfblhlfhaaaGreat
open Go.RowKit Go.Shelf Pl
attribute [local go_sem] Oper.semAt_some
set_option linter.unusedVariables false
set_option linter.unusedSimpArgs false
set_option maxRecDepth 20000
theorem run_alloc_Bd (w : World) (o : Oper) (ho : o.op = .alloc 86) (ev : Operand → Value) : (execOp ev o).run Tryz.prog w = .ok (.value (.pointer (some ⟨w.heap.size, 0, none⟩))) (w.alloc (.cells #[.nilFunc] 86)) := by
 obtain ⟨d, p, t, ps, af, gd⟩ := o
 simp only at ho
 subst ho
 kernel_rfl
theorem run_alloc_Mv (w : World) (o : Oper) (ho : o.op = .alloc 87) (ev : Operand → Value) : (execOp ev o).run Tryz.prog w = .ok (.value (.pointer (some ⟨w.heap.size, 0, none⟩))) (w.alloc (.cells #[.map none] 87)) := by
 obtain ⟨d, p, t, ps, af, gd⟩ := o
 simp only at ho
 subst ho
 kernel_rfl
theorem run_alloc_Ss (w : World) (o : Oper) (ho : o.op = .alloc 92) (ev : Operand → Value) : (execOp ev o).run Tryz.prog w = .ok (.value (.pointer (some ⟨w.heap.size, 0, none⟩))) (w.alloc (.cells #[.slice none 0 0] 92)) := by
 obtain ⟨d, p, t, ps, af, gd⟩ := o
 simp only at ho
 subst ho
 kernel_rfl
theorem run_load_mv {w : World} {b j : Nat} {v : Value} (h : w.cell? ⟨b, j, none⟩ = some v) : (Instr.loadAt 87 (.pointer (some ⟨b, j, none⟩))).run Tryz.prog w = .ok v w := by
 simp [go_sem, h]
theorem run_load_ss {w : World} {b j : Nat} {v : Value} (h : w.cell? ⟨b, j, none⟩ = some v) : (Instr.loadAt 92 (.pointer (some ⟨b, j, none⟩))).run Tryz.prog w = .ok v w := by
 simp [go_sem, h]
section
variable {v : Value} {ops : Array Oper} {rest : List Oper} {o : Oper} {a : Act} {w : World} {Q : Exit → Act → World → Prop}
theorem wpList_storeSs (hg : o.guard = none) (x y : Operand) (ho : o.op = .store 92 x y) (b : Nat) (hx : a.eval x = .pointer (some ⟨b, 0, none⟩)) (a' : Option Addr) (n' c' : Nat) (hy : a.eval y = .slice a' n' c') (ht : AtB 92 w b #[v])
  (h : ∀ w', AtB 92 w' b #[.slice a' n' c'] → Chg b w w' → w'.heap.size = w.heap.size → wpList Tryz.prog ops Q rest (a.put o.dst undef) w') : wpList Tryz.prog ops Q (o :: rest) a w := by
 have c0 := ht.cell 0 rfl
 have f0 := ht.frozen 0
 refine wpList_storeAny hg x y ho (w.setCell ⟨b, 0, none⟩ (.slice a' n' c')) ?_ (h _ ?_ ((Chg.refl b w).setCell _) (by simp only [World.size_setCell]))
 ·rw [hx, hy]
  simp [go_sem, c0, f0]
 ·exact heap_setCell_same w b 0 #[v] _ _ ht
theorem wpList_storeMv (hg : o.guard = none) (x y : Operand) (ho : o.op = .store 87 x y) (b m : Nat) (hx : a.eval x = .pointer (some ⟨b, 0, none⟩)) (hy : a.eval y = .map (some m)) (ht : AtB 87 w b #[v])
  (h : ∀ w', AtB 87 w' b #[.map (some m)] → Chg b w w' → w'.heap.size = w.heap.size → wpList Tryz.prog ops Q rest (a.put o.dst undef) w') : wpList Tryz.prog ops Q (o :: rest) a w := by
 have c0 := ht.cell 0 rfl
 have f0 := ht.frozen 0
 refine wpList_storeAny hg x y ho (w.setCell ⟨b, 0, none⟩ (.map (some m))) ?_ (h _ ?_ ((Chg.refl b w).setCell _) (by simp only [World.size_setCell]))
 ·rw [hx, hy]
  simp [go_sem, c0, f0]
 ·exact heap_setCell_same w b 0 #[v] _ _ ht
theorem wpList_mkMap (hg : o.guard = none) (ho : o.op = .makeMap 87 none)
  (h : ∀ b w', w.heap.size ≤ b → b ≤ w.heap.size → DoneM b [] w' → Below b w w' → w'.heap.size = b + 1 → wpList Tryz.prog ops Q rest (a.put o.dst (.map (some b))) w') : wpList Tryz.prog ops Q (o :: rest) a w :=
 wpList_plain hg fun K hK => by
  unfold Oper.wp
  have e : (execOp a.eval o).run Tryz.prog w = .ok (.value (.map (some w.heap.size))) (w.alloc (.map #[] 0)) := by
   obtain ⟨d, p, t, ps, af, gd⟩ := o
   simp only at ho
   subst ho
   rfl
  rw [e]
  exact hK _ _ (h _ _ (Nat.le_refl _) (Nat.le_refl _) (DoneM.nil (World.alloc_heap_new w _)) ((Below.refl _ _).alloc (Nat.le_refl _) _) (World.size_alloc _ _))
end
/-- Of what was there at A only the blocks m and l have turned. -/
structure KX (A : World) (m l : Nat) (W : World) : Prop where
 os : W.os = A.os
 tape : W.tape = A.tape
 output : W.output = A.output
 size : A.heap.size ≤ W.heap.size
 block : ∀ k, k < A.heap.size → k ≠ m → k ≠ l → W.heap[k]? = A.heap[k]?
theorem KX.refl (A : World) (m l : Nat) : KX A m l A := ⟨rfl, rfl, rfl, Nat.le_refl _, fun _ _ _ _ => rfl⟩
theorem KX.grown {A W W' : World} {m l : Nat} {row : Option Nat} (h : KX A m l W) (hg : W.grownBy W' row) (hr : ∀ r, row = some r → A.heap.size ≤ r ∨ r = m ∨ r = l) : KX A m l W' :=
 ⟨hg.os.trans h.os, hg.tape.trans h.tape, hg.output.trans h.output, Nat.le_trans h.size hg.size, fun k hk h1 h2 => (hg.block k (by have := h.size; omega) (fun e => by have := hr k e.symm; omega)).trans (h.block k hk h1 h2)⟩
theorem KX.atB {A W : World} {m l b : Nat} {t : TypeId} {cs : Array Value} (h : KX A m l W) (ha : AtB t A b cs) (h1 : b ≠ m) (h2 : b ≠ l) : AtB t W b cs := ha.of_eq (h.block b ha.lt h1 h2)
theorem KX.below {A W w : World} {m l n : Nat} (h : KX A m l W) (hb : Below n w A) (hn : n ≤ A.heap.size) (h1 : n ≤ m) (h2 : n ≤ l) : Below n w W :=
 ⟨h.os.trans hb.os, h.tape.trans hb.tape, h.output.trans hb.output, Nat.le_trans hb.size h.size, fun k hk => (h.block k (by omega) (by omega) (by omega)).trans (hb.block k hk)⟩
theorem KX.hold {A W w : World} {m l n : Nat} (h : KX A m l W) (hb : HoldC n w A) (h1 : n ≤ m) (h2 : n ≤ l) : HoldC n w W := fun k o hk ho hc => by
 have h3 := hb k o hk ho hc
 exact (h.block k (Array.getElem?_eq_some_iff.1 h3).1 (by omega) (by omega)).trans h3
theorem KX.marks {A W : World} {m l n : Nat} {ds : List Deferred} (h : KX A m l W) (hm : Marks n ds A) (h1 : ∀ D, DefAt A D → D ≠ m) (h2 : ∀ D, DefAt A D → D ≠ l) : Marks n ds W := hm.kept fun D hD _ => hD.of_eq (h.block D hD.lt (h1 D hD) (h2 D hD))
theorem OwnE.keptO {α : Type} {k : Nat} {T ST : TypeId} {E : Elt α k T ST} {B : Nat} {v : Value} {ls : List α} {w w' : World} (h : OwnE E B v ls w) (hk : ∀ (g : Nat) (cur : Array Value), w.heap[g]? = some (Obj.cells cur T (0, 0)) → w'.heap[g]? = some (Obj.cells cur T (0, 0))) : OwnE E B v ls w' := by
 obtain ⟨h1, h2⟩ := h
 refine ⟨h1, ?_⟩
 rcases h2 with h2 | ⟨g, cap, cur, e, hb, hg, r⟩
 ·exact .inl h2
 ·exact .inr ⟨g, cap, cur, e, hb, hk g cur hg, r⟩
theorem OwnP.keptO {B : Nat} {v : Value} {P : List (List Pnt)} {w w' : World} (h : OwnP B v P w) (hk : ∀ (g : Nat) (cur : Array Value) (t : TypeId), t = 22 ∨ t = 53 → w.heap[g]? = some (Obj.cells cur t (0, 0)) → w'.heap[g]? = some (Obj.cells cur t (0, 0))) : OwnP B v P w' := by
 obtain ⟨vs, h1, h2, h3⟩ := h
 exact ⟨vs, h1.keptO (fun g cur => hk g cur _ (.inl rfl)), h2, fun i s l a b => (h3 i s l a b).keptO (fun g cur => hk g cur _ (.inr rfl))⟩
theorem OwnP.chg {B c : Nat} {v : Value} {P : List (List Pnt)} {t : TypeId} {cs : Array Value} {w w' : World} (h : OwnP B v P w) (ha : AtB t w c cs) (ht : t ≠ 22 ∧ t ≠ 53) (hc : Chg c w w') : OwnP B v P w' :=
 h.keptO fun g cur t' ht' hg => (hc.block g (Array.getElem?_eq_some_iff.1 hg).1 (fun e => by
  rw [e, show w.heap[c]? = _ from ha] at hg
  injection hg with hg
  injection hg with _ hg
  rcases ht' with rfl | rfl
  ·exact ht.1 hg
  ·exact ht.2 hg)).trans hg
theorem KX.polys {A W : World} {m l B : Nat} {v : Value} {P : List (List Pnt)} (h : KX A m l W) (hp : OwnP B v P A) (h1 : ∃ es c, A.heap[m]? = some (.map es c)) {t : TypeId} {cs : Array Value} (h2 : AtB t A l cs) (ht : t ≠ 22 ∧ t ≠ 53) : OwnP B v P W :=
 hp.keptO fun g cur t' ht' hg => (h.block g (Array.getElem?_eq_some_iff.1 hg).1 (fun e => by
  obtain ⟨es, c, h1⟩ := h1
  rw [e, h1] at hg
  cases hg) (fun e => by
  rw [e, show A.heap[l]? = _ from h2] at hg
  injection hg with hg
  injection hg with _ hg
  rcases ht' with rfl | rfl
  ·exact ht.1 hg
  ·exact ht.2 hg)).trans hg
/-- A range's facts lie in cells, the map aside. -/
theorem chg_of_grown {w w' : World} {b : Nat} (h : w.grownBy w' (some b)) : Chg b w w' := ⟨h.os, h.tape, h.output, h.size, fun k hk hne => h.block k hk (fun e => hne (by injection e))⟩
theorem DoneM.ne {m b : Nat} {L : List Ed} {t : TypeId} {cs : Array Value} {w : World} (h : DoneM m L w) (ha : AtB t w b cs) : b ≠ m := fun e => by
 obtain ⟨es, c, ho⟩ := h.obj
 rw [← e, show w.heap[b]? = _ from ha] at ho
 cases ho
theorem DoneM.neD {m D : Nat} {L : List Ed} {w : World} (h : DoneM m L w) (ha : DefAt w D) : D ≠ m := fun e => by
 obtain ⟨es, c, ho⟩ := h.obj
 rw [← e, show w.heap[D]? = _ from ha] at ho
 cases ho
theorem DoneM.of_eq {b : Nat} {L : List Ed} {w w' : World} (h : DoneM b L w) (e : w'.heap[b]? = w.heap[b]?) : DoneM b L w' := by
 obtain ⟨h1, n, h2, es, c, h3, r⟩ := h
 exact ⟨h1, n, h2, es, c, e.trans h3, r⟩
theorem OwnE.chgT {α : Type} {k : Nat} {T ST : TypeId} {E : Elt α k T ST} {B c : Nat} {v : Value} {ls : List α} {t : TypeId} {cs : Array Value} {w w' : World} (h : OwnE E B v ls w) (ha : AtB t w c cs) (ht : t ≠ T) (hc : Chg c w w') : OwnE E B v ls w' :=
 h.keptO fun g cur hg => (hc.block g (Array.getElem?_eq_some_iff.1 hg).1 (fun e => by
  rw [e, show w.heap[c]? = _ from ha] at hg
  injection hg with hg
  injection hg with _ hg
  exact ht hg)).trans hg
theorem OwnE.ownR {α : Type} {k : Nat} {T ST : TypeId} {E : Elt α k T ST} {B : Nat} {v : Value} {ls : List α} {w w' : World} {row : Option Nat} (h : OwnE E B v ls w) (hg : w.grownBy w' row) (hr : ∀ r, row = some r → ∃ o : Obj, w.heap[r]? = some o ∧ o.isCells = false) : OwnE E B v ls w' := by
 refine h.kept hg ?_
 cases hrow : row with
 | none =>
  cases hv : v.ownBlock with
  | none => exact .inl rfl
  | some g => exact .inr (by simp)
 | some r =>
  obtain ⟨o, h1, h2⟩ := hr r hrow
  exact h.ne_obj h1 (fun cur e => by rw [e] at h2; cases h2)
theorem OwnE.keptC {α : Type} {k : Nat} {T ST : TypeId} {E : Elt α k T ST} {B : Nat} {v : Value} {ls : List α} {w w' : World} {row : Option Nat} (h : OwnE E B v ls w) (hg : w.grownBy w' row) (hr : ∀ r, row = some r → r < B) : OwnE E B v ls w' := by
 refine h.kept hg ?_
 cases hv : v.ownBlock with
 | none => exact .inl rfl
 | some g => exact .inr fun e => by have := hr g e.symm; have := (h.blk hv).1; omega
theorem KX.exc {A W W' : World} {m l n : Nat} (h : KX A m l W) (he : Exc m n W W') (hn : A.heap.size ≤ n) : KX A m l W' :=
 ⟨he.os.trans h.os, he.tape.trans h.tape, he.output.trans h.output, Nat.le_trans h.size he.grow, fun k hk h1 h2 => (he.block k (by omega) h1).trans (h.block k hk h1 h2)⟩
theorem KX.chgL {A W W' : World} {m l : Nat} (h : KX A m l W) (hc : Chg l W W') : KX A m l W' :=
 ⟨hc.os.trans h.os, hc.tape.trans h.tape, hc.output.trans h.output, Nat.le_trans h.size hc.size, fun k hk h1 h2 => (hc.block k (by have := h.size; omega) h2).trans (h.block k hk h1 h2)⟩
theorem rce_edS {g o : Nat} {ls : List Ed} {w : World} (h : RCellsE edE g o ls w) {i : Nat} {x y d : Int} (hi : ls[i]? = some ⟨x, y, d⟩) : (Instr.loadAt 90 (.pointer (some ⟨g, o + i * 3, none⟩))).run Tryz.prog w = .ok (.agg #[.int .i64 x, .int .i64 y, .int .i64 d]) w :=
 h.load Tryz.isAgg90 hi
theorem rce_eddS {g o : Nat} {ls : List Ed} {w : World} (h : RCellsE edE g o ls w) {i : Nat} {x y d : Int} (hi : ls[i]? = some ⟨x, y, d⟩) : (Instr.loadAt 3 (.pointer (some ⟨g, o + i * 3 + 2, none⟩))).run Tryz.prog w = .ok (.int .i64 d) w :=
 run_load_int (by have := h.2 i _ hi 2 (by omega); rw [← Nat.add_assoc] at this; exact this)
section
variable {ops : Array Oper} {rest : List Oper} {o : Oper} {a : Act} {w : World} {Q : Exit → Act → World → Prop}
theorem owp_bs1S {K : Act → World → Prop} (y : Operand) (ho : o.op = .buildSlice 55 1 #[(0, y)]) (s : Slc) (hy : a.eval y = s.v)
  (h : ∀ b w', w.heap.size ≤ b → b ≤ w.heap.size → AtB 22 w' b #[s.v] → Below b w w' → w'.heap.size = b + 1 → K (a.put o.dst (.slice (some ⟨b, 0, none⟩) 1 1)) w') : o.wp Tryz.prog a w K Q := by
 obtain ⟨i, z, hi, hz, hsz, hby, hzc⟩ := slE.facts
 refine wp_buildSlice 55 22 1 #[(0, y)] ho #[s.v] i z slE.und hi hz (by rw [hsz]; omega) (by rw [hsz]; omega) ?_ (h _ _ (Nat.le_refl _) (Nat.le_refl _) (by unfold AtB; rw [heap_get_alloc, if_pos rfl]) ((Below.refl _ _).alloc (Nat.le_refl _) _) (World.size_alloc _ _))
 rw [hsz]
 have hp : ((#[(0, y)] : Array (Nat × Operand)).map fun (i, x) => (i, a.eval x)).toList = [(0, s.v)] := by simp [hy]
 rw [hp]
 have hc : (s.v).cells = #[s.v] := rfl
 obtain ⟨r, hr1, hr2, hr3⟩ := Great.fill_dense (show 0 < 1 by omega) [s.v] 0 ((Array.range (1 * 1)).map (z.cells[· % z.cells.size]!)) (fun v hv => by rw [List.mem_singleton.1 hv, hc]; rfl) (by simp)
 have e : (([s.v].zipIdx 0).map fun y => (y.2, y.1)) = [(0, s.v)] := rfl
 rw [e] at hr1
 rw [hr1]
 congr 1
 apply Array.ext_getElem?
 intro j
 rw [hr3 j]
 by_cases h : j < 1
 ·have : j = 0 := by omega
  subst this
  simp [hc]
 ·rw [if_neg (by simp; omega), Array.getElem?_eq_none (by simp; omega), Array.getElem?_eq_none (by simp; omega)]
theorem wpList_bs1S (hg : o.guard = none) (y : Operand) (ho : o.op = .buildSlice 55 1 #[(0, y)]) (s : Slc) (hy : a.eval y = s.v)
  (h : ∀ b w', w.heap.size ≤ b → b ≤ w.heap.size → AtB 22 w' b #[s.v] → Below b w w' → w'.heap.size = b + 1 → wpList Tryz.prog ops Q rest (a.put o.dst (.slice (some ⟨b, 0, none⟩) 1 1)) w') : wpList Tryz.prog ops Q (o :: rest) a w :=
 wpList_plain hg fun K hK => owp_bs1S y ho s hy fun b w' h1 h2 h3 h4 h5 => hK _ _ (h b w' h1 h2 h3 h4 h5)
end
theorem HoldC.grown {n : Nat} {A W W' : World} {row : Option Nat} (h : HoldC n A W) (hg : W.grownBy W' row) (hr : ∀ r, row = some r → n ≤ r) : HoldC n A W' := fun k o hk ho hc => by
 have h1 := h k o hk ho hc
 exact (hg.block k (Array.getElem?_eq_some_iff.1 h1).1 (fun e => by have := hr k e.symm; omega)).trans h1
theorem Below.grown' {n : Nat} {A W W' : World} {row : Option Nat} (h : Below n A W) (hn : n ≤ A.heap.size) (hg : W.grownBy W' row) (hr : ∀ r, row = some r → n ≤ r) : Below n A W' := by
 refine ⟨hg.os.trans h.os, hg.tape.trans h.tape, hg.output.trans h.output, Nat.le_trans h.size hg.size, fun k hk => ?_⟩
 have h1 := h.size
 exact (hg.block k (by omega) (fun e => by have := hr k e.symm; omega)).trans (h.block k hk)
end Go.Proofs.YtamgpfblhlfhaaaGreat
/- SamePaths: equal lists of polygons. -/
namespace Go.Proofs.YtamgpfblhlfhaaaGreat
open Go.RowKit Go.Shelf Pl
set_option linter.unusedVariables false
set_option linter.unusedSimpArgs false
set_option maxRecDepth 20000
theorem run_load_sp {w : World} {b j : Nat} {v : Value} (h : w.cell? ⟨b, j, none⟩ = some v) : (Instr.loadAt 22 (.pointer (some ⟨b, j, none⟩))).run Tryz.prog w = .ok v w := by
 simp [go_sem, h]
theorem rce_sl {g o : Nat} {vs : List Slc} {w : World} (h : RCellsE slE g o vs w) {i : Nat} {a : Option Addr} {n c : Nat} (hi : vs[i]? = some ⟨a, n, c⟩) : (Instr.loadAt 22 (.pointer (some ⟨g, o + i * 1, none⟩))).run Tryz.prog w = .ok (.slice a n c) w :=
 run_load_sp (by have := h.2 i _ hi 0 (by omega); rw [Nat.add_zero] at this; exact this)
theorem equalIn_pt (d : Nat) (x y x' y' : Int) (w : World) : (Op.equalIn (d + 2) 53 (.agg #[.int .i64 x, .int .i64 y]) (.agg #[.int .i64 x', .int .i64 y'])).run Tryz.prog w = .ok (decide ((x, y) = (x', y'))) w := by
 have h : (Op.equalIn (d + 2) 53 (.agg #[.int .i64 x, .int .i64 y]) (.agg #[.int .i64 x', .int .i64 y'])).run Tryz.prog w = .ok (x == x' && y == y') w := by
  by_cases h1 : x = x' <;> by_cases h2 : y = y' <;> simp [go_sem, h1, h2]
 rw [h]
 congr 1
 rw [Bool.eq_iff_iff]
 simp
theorem neq_pt (x y x' y' : Int) (w : World) : (binOp .neq 53 (.agg #[.int .i64 x, .int .i64 y]) (.agg #[.int .i64 x', .int .i64 y'])).run Tryz.prog w = .ok (.bool (!decide ((x, y) = (x', y')))) w := by
 have h := run_neq_struct (P := Tryz.prog) w 53 #[.int .i64 x, .int .i64 y] #[.int .i64 x', .int .i64 y']
 rw [h, equalIn_pt 9998 x y x' y' w]; rfl
section
variable {o : Oper} {a : Act} {C : World → Prop} {K : Act → Prop}
theorem quiet_neqP {p q : Operand} {t2 : TypeId} (h : o.op = .binOp .neq 53 p q t2) (x y x' y' : Int) (hx : a.eval p = .agg #[.int .i64 x, .int .i64 y]) (hy : a.eval q = .agg #[.int .i64 x', .int .i64 y']) (b : Bool) (hb : decide ((x, y) = (x', y')) = !b) (hk : K (a.put o.dst (.bool b))) : o.quiet Tryz.prog a C K :=
 ⟨_, fun w hw => by
  have hg : (eqGuard .neq 53 p q (.agg #[.int .i64 x, .int .i64 y]) (.agg #[.int .i64 x', .int .i64 y'])).run Tryz.prog w = .ok () w := run_eqGuard_agg w _ 53 p q _ _ (by kernel_rfl)
  unfold Oper.quietAt execOp
  simp only [h, hx, hy, hg, neq_pt, hb, Bool.not_not, Sem.run_bind, Sem.run_pure, Result.andThen_ok]
  exact ⟨rfl, rfl⟩, hk⟩
end
theorem getD_ne {α : Type} {l m : List α} {i : Nat} (h : l[i]? ≠ m[i]?) : l ≠ m := fun e => h (by rw [e])
theorem all_eq {α : Type} {l m : List α} (hl : l.length = m.length) (h : ∀ i, i < l.length → l[i]? = m[i]?) : l = m := by
 refine List.ext_getElem? fun i => ?_
 by_cases hi : i < l.length
 ·exact h i hi
 ·rw [List.getElem?_eq_none (by omega), List.getElem?_eq_none (by omega)]
set_option maxHeartbeats 8000000 in
theorem R_SamePaths (v v' : Value) (P P' : List (List Pnt)) (w : World) (h : RPoly v P w) (h' : RPoly v' P' w) (hn : P.length ≤ 1000000) (hn' : P'.length ≤ 1000000) (hL : ∀ l ∈ P, l.length ≤ 1000000) : Calls Tryz.prog 23 #[v, v'] w fun e w' => e = .returned (.bool (decide (P = P'))) ∧ Below w.heap.size w w' := by
 have B := Below.refl w.heap.size w
 obtain ⟨a1, c1, rfl, _⟩ := h.len
 obtain ⟨a2, c2, rfl, _⟩ := h'.len
 obtain ⟨vs, r1, e1, s1⟩ := h
 obtain ⟨vs', r2, e2, s2⟩ := h'
 have R1 := Lib.hid r1
 have R2 := Lib.hid r2
 have S1 := Lib.hid s1
 have S2 := Lib.hid s2
 have HL := Lib.hid hL
 clear r1 r2 s1 s2 hL
 go_enter Tryz.func23, Tryz.ntmps23
 go_upto_region 0 with fail
 refine wp_region_lit ?_
 try simp only [gelS]
 refine wpList_chunk 1 (by kernel_rfl) ?_
 simp only [takS, Nat.reduceAdd]
 repeat (first | go_big_quiet_skip | (go_big_quiet_want; go_big_quiet_op; go_big_quiet_on))
 refine wpQuiet_nil ?_
 refine wpList_nil ?_
 go_upto_region 1 with fail
 by_cases hlen : P.length = P'.length
 ·have q0 : ((P.length : Int) != (P'.length : Int)) = false := by rw [hlen]; simp
  have q0' : ((P.length : Int) == (P'.length : Int)) = true := by rw [hlen]; simp
  refine wp_region_lit ?_
  try simp only [gelS]
  refine wpList_chunk 1 (by kernel_rfl) ?_
  simp only [takS, Nat.reduceAdd]
  repeat (first | go_big_quiet_skip | (go_big_quiet_want; go_big_quiet_op; go_big_quiet_on))
  refine wpQuiet_nil ?_
  refine wpList_lenS (by first | rfl | simp [Region.wanted, yielded]) rfl Tryz.underlying55 rfl ?_
  simp only [putS]
  refine wpList_chunk 1 (by kernel_rfl) ?_
  simp only [takS, Nat.reduceAdd]
  repeat (first | go_big_quiet_skip | (go_big_quiet_want; go_big_quiet_op; go_big_quiet_on))
  refine wpQuiet_nil ?_
  refine wpList_lenS (by first | rfl | simp [Region.wanted, yielded]) rfl Tryz.underlying55 rfl ?_
  simp only [putS]
  refine wpList_chunk 1 (by kernel_rfl) ?_
  simp only [takS, Nat.reduceAdd]
  repeat (first | go_big_quiet_skip | (go_big_quiet_want; go_big_quiet_op; go_big_quiet_on))
  refine wpQuiet_nil ?_
  refine wpList_nil ?_
  go_upto_region 3 with fail
  refine wp_region_lit ?_
  try simp only [gelS]
  refine wpList_chunk 1 (by kernel_rfl) ?_
  simp only [takS, Nat.reduceAdd]
  repeat (first | go_big_quiet_skip | (go_big_quiet_want; go_big_quiet_op; go_big_quiet_on))
  refine wpQuiet_nil ?_
  refine wpList_nil ?_
  go_wp2
  go_loopw [5, 6] (fun iv _ wr => ∃ k : Nat, k ≤ P.length ∧ iv = .int .i64 (k : Int) ∧ (∀ i, i < k → P[i]? = P'[i]?) ∧ Below w.heap.size w wr) (fun iv _ _ => (P.length - intOf iv).toNat)
  case atStart => exact ⟨0, by omega, rfl, fun i hi => absurd hi (by omega), B⟩
  case round =>
   clear B
   obtain ⟨k, hk, rfl, hall, B⟩ := hrel
   have HA := Lib.hid hall
   clear hall
   by_cases hkl : k < P.length
   ·have q1 : decide ((k : Int) < (P.length : Int)) = true := decide_eq_true (by omega)
    have q2 : decide (k < P.length) = true := decide_eq_true hkl
    have q2' : decide (k < P'.length) = true := decide_eq_true (by omega)
    have q1' : decide ((k : Int) < (P'.length : Int)) = true := decide_eq_true (by omega)
    obtain ⟨g1, o1, rfl, ce1w⟩ := R1.out.at (by omega)
    obtain ⟨g2, o2, rfl, ce2w⟩ := R2.out.at (by omega)
    obtain ⟨⟨sa, sn, sc⟩, hs1⟩ : ∃ s, vs[k]? = some s := ⟨_, List.getElem?_eq_getElem (by omega)⟩
    obtain ⟨⟨ta, tn, tc⟩, hs2⟩ : ∃ s, vs'[k]? = some s := ⟨_, List.getElem?_eq_getElem (by omega)⟩
    obtain ⟨l1, hl1⟩ : ∃ l, P[k]? = some l := ⟨_, List.getElem?_eq_getElem (by omega)⟩
    obtain ⟨l2, hl2⟩ : ∃ l, P'[k]? = some l := ⟨_, List.getElem?_eq_getElem (by omega)⟩
    have p1 := S1.out k _ _ hs1 hl1
    have p2 := S2.out k _ _ hs2 hl2
    obtain ⟨_, _, hv1, _⟩ := p1.len
    obtain ⟨_, _, hv2, _⟩ := p2.len
    simp only [Slc.v, Value.slice.injEq] at hv1 hv2
    obtain ⟨rfl, rfl, rfl⟩ := hv1
    obtain ⟨rfl, rfl, rfl⟩ := hv2
    have hb1 := HL.out l1 (List.mem_of_getElem? hl1)
    have P1 := Lib.hid p1
    have P2 := Lib.hid p2
    have ce1 := ce1w.of_eq (B.block _ ce1w.lt)
    have ce2 := ce2w.of_eq (B.block _ ce2w.lt)
    have C1 := Lib.hid ce1w
    have C2 := Lib.hid ce2w
    have KK := Lib.hid (show l1 ≠ l2 → P ≠ P' from fun e => getD_ne (i := k) (by rw [hl1, hl2]; intro h; injection h with h; exact e h))
    have KE := Lib.hid (show l1 = l2 → ∀ i, i < k + 1 → P[i]? = P'[i]? from fun e i hi => by
     by_cases hik : i = k
     ·rw [hik, hl1, hl2, e]
     ·exact HA.out i (by omega))
    clear ce1w ce2w p1 p2 hl1 hl2
    go_upto_region 4 with fail
    refine wp_region_lit ?_
    try simp only [gelS]
    refine wpList_chunk 2 (by kernel_rfl) ?_
    simp only [takS, Nat.reduceAdd]
    repeat (first | go_big_quiet_skip | (go_big_quiet_want; go_big_quiet_op; go_big_quiet_on))
    refine wpQuiet_nil ?_
    refine wpList_lenS (by first | rfl | simp [Region.wanted, yielded]) rfl Tryz.underlying55 rfl ?_
    simp only [putS]
    refine wpList_chunk 1 (by kernel_rfl) ?_
    simp only [takS, Nat.reduceAdd]
    repeat (first | go_big_quiet_skip | (go_big_quiet_want; go_big_quiet_op; go_big_quiet_on))
    refine wpQuiet_nil ?_
    refine wpList_nil ?_
    go_upto_region 6 with fail
    by_cases hll : l1.length = l2.length
    ·have q5 : ((l1.length : Int) != (l2.length : Int)) = false := by rw [hll]; simp
     have q5' : ((l1.length : Int) == (l2.length : Int)) = true := by rw [hll]; simp
     try simp only [gelS]
     try have lx_ce1 := ce1.lt
     try have lx_ce2 := ce2.lt
     refine wp_region_RL 11 [(4, detS ?v1_4), (9, detS ?v1_9)] (by kernel_rfl) (by kernel_rfl) (by kernel_rfl) ?_
     rotate_left 2
     simp only [takS, Nat.reduceAdd]
     refine wpRL_chunk 4 (by kernel_rfl) ?_
     simp only [takS, Nat.reduceAdd]
     repeat (first | go_big_quiet_skip | (go_big_quiet_want; first | (refine quiet_loadAny (t := 22) rfl _ _ _ rfl (fun w hw => rce_sl (ov_rce ce1 w hw) hs1) (by first | rfl | omega) ?_; simp only [putS]; go_big_quiet_on) | (refine quiet_loadAny (t := 22) rfl _ _ _ rfl (fun w hw => rce_sl (ov_rce ce2 w hw) hs2) (by first | rfl | omega) ?_; simp only [putS]; go_big_quiet_on) | (go_big_quiet_op; go_big_quiet_on)))
     refine wpQuiet_nil ?_
     refine wpRL_callB (by rfl) (by first | rfl | simp [Region.wanted, yielded]) ?_ ?_
     ·intro wn hbn hE Kx hKx
      have hsz := B.size
      have hzn := hbn.size
      replace B := B.trans (hbn.mono B.size)
      (try replace ce1 := ce1.below hbn)
      (try replace ce2 := ce2.below hbn)
      refine wp_lenS rfl Tryz.underlying22 rfl ?_
      exact hKx () _ trivial (Below.refl _ _)
     rintro ⟨⟩
     dsimp only [detS]
     simp only [putS]
     refine wpRL_chunk 4 (by kernel_rfl) ?_
     simp only [takS, Nat.reduceAdd]
     repeat (first | go_big_quiet_skip | (go_big_quiet_want; first | (refine quiet_loadAny (t := 22) rfl _ _ _ rfl (fun w hw => rce_sl (ov_rce ce1 w hw) hs1) (by first | rfl | omega) ?_; simp only [putS]; go_big_quiet_on) | (refine quiet_loadAny (t := 22) rfl _ _ _ rfl (fun w hw => rce_sl (ov_rce ce2 w hw) hs2) (by first | rfl | omega) ?_; simp only [putS]; go_big_quiet_on) | (go_big_quiet_op; go_big_quiet_on)))
     refine wpQuiet_nil ?_
     refine wpRL_callB (by rfl) (by first | rfl | simp [Region.wanted, yielded]) ?_ ?_
     ·intro wn hbn hE Kx hKx
      have hsz := B.size
      have hzn := hbn.size
      replace B := B.trans (hbn.mono B.size)
      (try replace ce1 := ce1.below hbn)
      (try replace ce2 := ce2.below hbn)
      refine wp_lenS rfl Tryz.underlying22 rfl ?_
      exact hKx () _ trivial (Below.refl _ _)
     rintro ⟨⟩
     dsimp only [detS]
     simp only [putS]
     refine wpRL_chunk 1 (by kernel_rfl) ?_
     simp only [takS, Nat.reduceAdd]
     repeat (first | go_big_quiet_skip | (go_big_quiet_want; go_big_quiet_op; go_big_quiet_on))
     refine wpQuiet_nil ?_
     refine wpRL_nil ?_
     intro wn hbn hE
     have hsz := B.size
     have hzn := hbn.size
     replace B := B.trans (hbn.mono B.size)
     (try replace ce1 := ce1.below hbn)
     (try replace ce2 := ce2.below hbn)
     clear hE
     try simp only [List.drop_succ_cons, List.drop_zero]
     refine NoPan.normal ?_
     go_upto_region 8 with fail
     refine wp_region_lit ?_
     try simp only [gelS]
     refine wpList_chunk 1 (by kernel_rfl) ?_
     simp only [takS, Nat.reduceAdd]
     repeat (first | go_big_quiet_skip | (go_big_quiet_want; go_big_quiet_op; go_big_quiet_on))
     refine wpQuiet_nil ?_
     refine wpList_nil ?_
     have HLL := Lib.hid hll
     clear ce1 ce2 hll q5 q5'
     go_wp2
     go_loopw [6] (fun iv wr => ∃ j : Nat, j ≤ l1.length ∧ iv = .int .i64 (j : Int) ∧ (∀ i, i < j → l1[i]? = l2[i]?) ∧ Below w.heap.size w wr) (fun iv _ => (l1.length - intOf iv).toNat)
     case atStart => exact ⟨0, by omega, rfl, fun i hi => absurd hi (by omega), B⟩
     case round =>
      clear B
      obtain ⟨j, hj, rfl, hall, B⟩ := hrel
      have HA2 := Lib.hid hall
      clear hall
      have ce1 := C1.out.of_eq (B.block _ C1.out.lt)
      have ce2 := C2.out.of_eq (B.block _ C2.out.lt)
      by_cases hjl : j < l1.length
      ·have q6 : decide ((j : Int) < (l1.length : Int)) = true := decide_eq_true (by omega)
       have q7 : decide (j < l1.length) = true := decide_eq_true hjl
       have hll := HLL.out
       have q6' : decide ((j : Int) < (l2.length : Int)) = true := decide_eq_true (by omega)
       have q7' : decide (j < l2.length) = true := decide_eq_true (by omega)
       have hjl2 : j < l2.length := by omega
       obtain ⟨ga, oa, rfl, pa0⟩ := P1.out.at (by omega)
       obtain ⟨gb, ob, rfl, pb0⟩ := P2.out.at (by omega)
       have pa := pa0.of_eq (B.block _ pa0.lt)
       have pb := pb0.of_eq (B.block _ pb0.lt)
       clear pa0 pb0
       obtain ⟨⟨x, y⟩, hx⟩ : ∃ e, l1[j]? = some e := ⟨_, List.getElem?_eq_getElem hjl⟩
       obtain ⟨⟨x', y'⟩, hx'⟩ : ∃ e, l2[j]? = some e := ⟨_, List.getElem?_eq_getElem (by omega)⟩
       clear hll
       go_upto_region 9 with fail
       refine wp_region_lit ?_
       try simp only [gelS]
       refine wpList_chunk 5 (by kernel_rfl) ?_
       simp only [takS, Nat.reduceAdd]
       repeat (first | go_big_quiet_skip | (go_big_quiet_want; first | (refine quiet_loadAny (t := 22) rfl _ _ _ rfl (fun w hw => rce_sl (ov_rce ce1 w hw) hs1) (by first | rfl | omega) ?_; simp only [putS]; go_big_quiet_on) | (go_big_quiet_op; go_big_quiet_on)))
       refine wpQuiet_nil ?_
       refine wpList_lenS (by first | rfl | simp [Region.wanted, yielded]) rfl Tryz.underlying22 rfl ?_
       simp only [putS]
       refine wpList_chunk 1 (by kernel_rfl) ?_
       simp only [takS, Nat.reduceAdd]
       repeat (first | go_big_quiet_skip | (go_big_quiet_want; go_big_quiet_op; go_big_quiet_on))
       refine wpQuiet_nil ?_
       refine wpList_nil ?_
       go_upto_region 11 with fail
       by_cases he : (x, y) = (x', y')
       ·have q9 : decide ((x, y) = (x', y')) = !false := by rw [decide_eq_true he]; rfl
        have HN := Lib.hid (show ∀ i, i < j + 1 → l1[i]? = l2[i]? from fun i hi => by
         by_cases hij : i = j
         ·rw [hij, hx, hx', he]
         ·exact HA2.out i (by omega))
        try simp only [gelS]
        try have lx_ce1 := ce1.lt
        try have lx_ce2 := ce2.lt
        try have lx_pa := pa.lt
        try have lx_pb := pb.lt
        refine wp_region_RL 15 [] (by kernel_rfl) (by kernel_rfl) (by kernel_rfl) ?_
        rotate_left 0
        simp only [takS, Nat.reduceAdd]
        refine wpRL_chunk 15 (by kernel_rfl) ?_
        simp only [takS, Nat.reduceAdd]
        repeat (first | go_big_quiet_skip | (go_big_quiet_want; first | (refine quiet_loadAny (t := 22) rfl _ _ _ rfl (fun w hw => rce_sl (ov_rce ce1 w hw) hs1) (by first | rfl | omega) ?_; simp only [putS]; go_big_quiet_on) | (refine quiet_loadAny (t := 22) rfl _ _ _ rfl (fun w hw => rce_sl (ov_rce ce2 w hw) hs2) (by first | rfl | omega) ?_; simp only [putS]; go_big_quiet_on) | (refine quiet_loadAny (t := 53) rfl _ _ _ rfl (fun w hw => rce_pt (ov_rce pa w hw) hx) (by first | rfl | omega) ?_; simp only [putS]; go_big_quiet_on) | (refine quiet_loadAny (t := 53) rfl _ _ _ rfl (fun w hw => rce_pt (ov_rce pb w hw) hx') (by first | rfl | omega) ?_; simp only [putS]; go_big_quiet_on) | (refine quiet_neqP rfl x y x' y' rfl rfl _ q9 ?_; simp only [putS]; go_big_quiet_on) | (go_big_quiet_op; go_big_quiet_on)))
        refine wpQuiet_nil ?_
        refine wpRL_nil ?_
        intro wn hbn hE
        have hsz := B.size
        have hzn := hbn.size
        replace B := B.trans (hbn.mono B.size)
        (try replace ce1 := ce1.below hbn)
        (try replace ce2 := ce2.below hbn)
        (try replace pa := pa.below hbn)
        (try replace pb := pb.below hbn)
        clear hE
        try simp only [List.drop_succ_cons, List.drop_zero]
        refine NoPan.normal ?_
        go_upto_region 10 with fail
        refine wp_region_lit ?_
        try simp only [gelS]
        refine wpList_chunk 3 (by kernel_rfl) ?_
        simp only [takS, Nat.reduceAdd]
        repeat (first | go_big_quiet_skip | (go_big_quiet_want; go_big_quiet_op; go_big_quiet_on))
        refine wpQuiet_nil ?_
        refine wpList_nil ?_
        go_wp2
        go_roundw
        case rel => exact ⟨j + 1, by omega, by go_num, HN.out, B⟩
        case measure => simp [intOf]; omega
       ·have q9 : decide ((x, y) = (x', y')) = !true := by rw [decide_eq_false he]; rfl
        have HF := Lib.hid (KK.out (getD_ne (i := j) (by rw [hx, hx']; intro h; injection h with h; exact he h)))
        try simp only [gelS]
        try have lx_ce1 := ce1.lt
        try have lx_ce2 := ce2.lt
        try have lx_pa := pa.lt
        try have lx_pb := pb.lt
        refine wp_region_RL 15 [] (by kernel_rfl) (by kernel_rfl) (by kernel_rfl) ?_
        rotate_left 0
        simp only [takS, Nat.reduceAdd]
        refine wpRL_chunk 15 (by kernel_rfl) ?_
        simp only [takS, Nat.reduceAdd]
        repeat (first | go_big_quiet_skip | (go_big_quiet_want; first | (refine quiet_loadAny (t := 22) rfl _ _ _ rfl (fun w hw => rce_sl (ov_rce ce1 w hw) hs1) (by first | rfl | omega) ?_; simp only [putS]; go_big_quiet_on) | (refine quiet_loadAny (t := 22) rfl _ _ _ rfl (fun w hw => rce_sl (ov_rce ce2 w hw) hs2) (by first | rfl | omega) ?_; simp only [putS]; go_big_quiet_on) | (refine quiet_loadAny (t := 53) rfl _ _ _ rfl (fun w hw => rce_pt (ov_rce pa w hw) hx) (by first | rfl | omega) ?_; simp only [putS]; go_big_quiet_on) | (refine quiet_loadAny (t := 53) rfl _ _ _ rfl (fun w hw => rce_pt (ov_rce pb w hw) hx') (by first | rfl | omega) ?_; simp only [putS]; go_big_quiet_on) | (refine quiet_neqP rfl x y x' y' rfl rfl _ q9 ?_; simp only [putS]; go_big_quiet_on) | (go_big_quiet_op; go_big_quiet_on)))
        refine wpQuiet_nil ?_
        refine wpRL_nil ?_
        intro wn hbn hE
        have hsz := B.size
        have hzn := hbn.size
        replace B := B.trans (hbn.mono B.size)
        (try replace ce1 := ce1.below hbn)
        (try replace ce2 := ce2.below hbn)
        clear hE
        try simp only [List.drop_succ_cons, List.drop_zero]
        refine NoPan.normal ?_
        go_upto_region 12 with fail
        refine wp_region_lit ?_
        try simp only [gelS]
        refine wpList_chunk 1 (by kernel_rfl) ?_
        simp only [takS, Nat.reduceAdd]
        repeat (first | go_big_quiet_skip | (go_big_quiet_want; go_big_quiet_op; go_big_quiet_on))
        refine wpQuiet_nil ?_
        refine wpList_nil ?_
        go_wp2
        go_ret
        exact ⟨by rw [decide_eq_false HF.out]; rfl, B⟩
      ·obtain rfl : j = l1.length := by omega
       have q6 : decide (((l1.length : Nat) : Int) < (l1.length : Int)) = false := decide_eq_false (by omega)
       have q7 : decide (l1.length < l1.length) = false := decide_eq_false (by omega)
       have HN := Lib.hid (KE.out (all_eq HLL.out HA2.out))
       go_upto_region 9 with fail
       refine wp_region_lit ?_
       try simp only [gelS]
       refine wpList_chunk 5 (by kernel_rfl) ?_
       simp only [takS, Nat.reduceAdd]
       repeat (first | go_big_quiet_skip | (go_big_quiet_want; first | (refine quiet_loadAny (t := 22) rfl _ _ _ rfl (fun w hw => rce_sl (ov_rce ce1 w hw) hs1) (by first | rfl | omega) ?_; simp only [putS]; go_big_quiet_on) | (go_big_quiet_op; go_big_quiet_on)))
       refine wpQuiet_nil ?_
       refine wpList_lenS (by first | rfl | simp [Region.wanted, yielded]) rfl Tryz.underlying22 rfl ?_
       simp only [putS]
       refine wpList_chunk 1 (by kernel_rfl) ?_
       simp only [takS, Nat.reduceAdd]
       repeat (first | go_big_quiet_skip | (go_big_quiet_want; go_big_quiet_op; go_big_quiet_on))
       refine wpQuiet_nil ?_
       refine wpList_nil ?_
       go_upto_region 5 with fail
       refine wp_region_lit ?_
       try simp only [gelS]
       refine wpList_chunk 3 (by kernel_rfl) ?_
       simp only [takS, Nat.reduceAdd]
       repeat (first | go_big_quiet_skip | (go_big_quiet_want; go_big_quiet_op; go_big_quiet_on))
       refine wpQuiet_nil ?_
       refine wpList_nil ?_
       go_wp2
       go_roundw
       case rel => exact ⟨k + 1, by omega, by go_num, HN.out, B⟩
       case measure => simp [intOf]; omega
    ·have q5 : ((l1.length : Int) != (l2.length : Int)) = true := by simp; omega
     have q5' : ((l1.length : Int) == (l2.length : Int)) = false := by simp; omega
     have HF := Lib.hid (KK.out (fun e => hll (by rw [e])))
     try simp only [gelS]
     try have lx_ce1 := ce1.lt
     try have lx_ce2 := ce2.lt
     refine wp_region_RL 11 [(4, detS ?v4_4), (9, detS ?v4_9)] (by kernel_rfl) (by kernel_rfl) (by kernel_rfl) ?_
     rotate_left 2
     simp only [takS, Nat.reduceAdd]
     refine wpRL_chunk 4 (by kernel_rfl) ?_
     simp only [takS, Nat.reduceAdd]
     repeat (first | go_big_quiet_skip | (go_big_quiet_want; first | (refine quiet_loadAny (t := 22) rfl _ _ _ rfl (fun w hw => rce_sl (ov_rce ce1 w hw) hs1) (by first | rfl | omega) ?_; simp only [putS]; go_big_quiet_on) | (refine quiet_loadAny (t := 22) rfl _ _ _ rfl (fun w hw => rce_sl (ov_rce ce2 w hw) hs2) (by first | rfl | omega) ?_; simp only [putS]; go_big_quiet_on) | (go_big_quiet_op; go_big_quiet_on)))
     refine wpQuiet_nil ?_
     refine wpRL_callB (by rfl) (by first | rfl | simp [Region.wanted, yielded]) ?_ ?_
     ·intro wn hbn hE Kx hKx
      have hsz := B.size
      have hzn := hbn.size
      replace B := B.trans (hbn.mono B.size)
      (try replace ce1 := ce1.below hbn)
      (try replace ce2 := ce2.below hbn)
      refine wp_lenS rfl Tryz.underlying22 rfl ?_
      exact hKx () _ trivial (Below.refl _ _)
     rintro ⟨⟩
     dsimp only [detS]
     simp only [putS]
     refine wpRL_chunk 4 (by kernel_rfl) ?_
     simp only [takS, Nat.reduceAdd]
     repeat (first | go_big_quiet_skip | (go_big_quiet_want; first | (refine quiet_loadAny (t := 22) rfl _ _ _ rfl (fun w hw => rce_sl (ov_rce ce1 w hw) hs1) (by first | rfl | omega) ?_; simp only [putS]; go_big_quiet_on) | (refine quiet_loadAny (t := 22) rfl _ _ _ rfl (fun w hw => rce_sl (ov_rce ce2 w hw) hs2) (by first | rfl | omega) ?_; simp only [putS]; go_big_quiet_on) | (go_big_quiet_op; go_big_quiet_on)))
     refine wpQuiet_nil ?_
     refine wpRL_callB (by rfl) (by first | rfl | simp [Region.wanted, yielded]) ?_ ?_
     ·intro wn hbn hE Kx hKx
      have hsz := B.size
      have hzn := hbn.size
      replace B := B.trans (hbn.mono B.size)
      refine wp_lenS rfl Tryz.underlying22 rfl ?_
      exact hKx () _ trivial (Below.refl _ _)
     rintro ⟨⟩
     dsimp only [detS]
     simp only [putS]
     refine wpRL_chunk 1 (by kernel_rfl) ?_
     simp only [takS, Nat.reduceAdd]
     repeat (first | go_big_quiet_skip | (go_big_quiet_want; go_big_quiet_op; go_big_quiet_on))
     refine wpQuiet_nil ?_
     refine wpRL_nil ?_
     intro wn hbn hE
     have hsz := B.size
     have hzn := hbn.size
     replace B := B.trans (hbn.mono B.size)
     clear hE
     try simp only [List.drop_succ_cons, List.drop_zero]
     refine NoPan.normal ?_
     go_upto_region 7 with fail
     refine wp_region_lit ?_
     try simp only [gelS]
     refine wpList_chunk 1 (by kernel_rfl) ?_
     simp only [takS, Nat.reduceAdd]
     repeat (first | go_big_quiet_skip | (go_big_quiet_want; go_big_quiet_op; go_big_quiet_on))
     refine wpQuiet_nil ?_
     refine wpList_nil ?_
     go_wp2
     go_ret
     exact ⟨by rw [decide_eq_false HF.out]; rfl, B⟩
   ·obtain rfl : k = P.length := by omega
    have q1 : decide (((P.length : Nat) : Int) < (P.length : Int)) = false := decide_eq_false (by omega)
    have q2 : decide (P.length < P.length) = false := decide_eq_false (by omega)
    have HE := Lib.hid (all_eq hlen HA.out)
    go_upto_region 4 with fail
    refine wp_region_lit ?_
    try simp only [gelS]
    refine wpList_chunk 2 (by kernel_rfl) ?_
    simp only [takS, Nat.reduceAdd]
    repeat (first | go_big_quiet_skip | (go_big_quiet_want; go_big_quiet_op; go_big_quiet_on))
    refine wpQuiet_nil ?_
    refine wpList_lenS (by first | rfl | simp [Region.wanted, yielded]) rfl Tryz.underlying55 rfl ?_
    simp only [putS]
    refine wpList_chunk 1 (by kernel_rfl) ?_
    simp only [takS, Nat.reduceAdd]
    repeat (first | go_big_quiet_skip | (go_big_quiet_want; go_big_quiet_op; go_big_quiet_on))
    refine wpQuiet_nil ?_
    refine wpList_nil ?_
    go_upto_region 13 with fail
    refine wp_region_lit ?_
    try simp only [gelS]
    refine wpList_chunk 1 (by kernel_rfl) ?_
    simp only [takS, Nat.reduceAdd]
    repeat (first | go_big_quiet_skip | (go_big_quiet_want; go_big_quiet_op; go_big_quiet_on))
    refine wpQuiet_nil ?_
    refine wpList_nil ?_
    go_wp2
    go_ret
    exact ⟨by rw [decide_eq_true HE.out]; rfl, B⟩
 ·have q0 : ((P.length : Int) != (P'.length : Int)) = true := by simp; omega
  have q0' : ((P.length : Int) == (P'.length : Int)) = false := by simp; omega
  have HF := Lib.hid (show P ≠ P' from fun e => hlen (by rw [e]))
  refine wp_region_lit ?_
  try simp only [gelS]
  refine wpList_chunk 1 (by kernel_rfl) ?_
  simp only [takS, Nat.reduceAdd]
  repeat (first | go_big_quiet_skip | (go_big_quiet_want; go_big_quiet_op; go_big_quiet_on))
  refine wpQuiet_nil ?_
  refine wpList_lenS (by first | rfl | simp [Region.wanted, yielded]) rfl Tryz.underlying55 rfl ?_
  simp only [putS]
  refine wpList_chunk 1 (by kernel_rfl) ?_
  simp only [takS, Nat.reduceAdd]
  repeat (first | go_big_quiet_skip | (go_big_quiet_want; go_big_quiet_op; go_big_quiet_on))
  refine wpQuiet_nil ?_
  refine wpList_lenS (by first | rfl | simp [Region.wanted, yielded]) rfl Tryz.underlying55 rfl ?_
  simp only [putS]
  refine wpList_chunk 1 (by kernel_rfl) ?_
  simp only [takS, Nat.reduceAdd]
  repeat (first | go_big_quiet_skip | (go_big_quiet_want; go_big_quiet_op; go_big_quiet_on))
  refine wpQuiet_nil ?_
  refine wpList_nil ?_
  go_upto_region 2 with fail
  refine wp_region_lit ?_
  try simp only [gelS]
  refine wpList_chunk 1 (by kernel_rfl) ?_
  simp only [takS, Nat.reduceAdd]
  repeat (first | go_big_quiet_skip | (go_big_quiet_want; go_big_quiet_op; go_big_quiet_on))
  refine wpQuiet_nil ?_
  refine wpList_nil ?_
  go_wp2
  go_ret
  exact ⟨by rw [decide_eq_false HF.out]; rfl, B⟩
end Go.Proofs.YtamgpfblhlfhaaaGreat
/- Contract of Outline. -/
namespace Go.Proofs.YtamgpfblhlfhaaaGreat
open Go.RowKit Go.Shelf Pl
attribute [local go_sem] Oper.semAt_some
set_option linter.unusedVariables false
set_option linter.unusedSimpArgs false
set_option maxRecDepth 20000
section
variable {ops : Array Oper} {rest : List Oper} {o : Oper} {a : Act} {w : World} {Q : Exit → Act → World → Prop}
theorem wpList_look (hg : o.guard = none) (m x : Operand) (hop : o.op = .lookup 87 m x false) {b : Nat} {L : List Ed} (hm : a.eval m = .map (some b)) (hd : DoneM b L w) (e : Ed) (hx : a.eval x = .agg (edC e)) (he : WfE e) (c : Bool) (hc : decide (e ∈ L) = c)
  (h : wpList Tryz.prog ops Q rest (a.put o.dst (.bool c)) w) : wpList Tryz.prog ops Q (o :: rest) a w :=
 wpList_plain hg fun K hK => by
  have e1 : (execOp a.eval o).run Tryz.prog w = .ok (.value (.bool c)) w := by
   obtain ⟨d, p, t, ps, af, gd⟩ := o
   simp only at hop
   subst hop
   have := hd.look he
   rw [hc] at this
   simp only [execOp, hm, hx, Sem.run_bind, this, Sem.run_pure, Result.andThen_ok]
  unfold Oper.wp
  rw [e1]
  exact hK _ _ h
end
/-- What lies in memory between two rounds of Outline. -/
def OutF (w wI : World) (r t p5 p6 m p8 : Nat) (R : Rc) (st : ScSt) (vo : Value) (ds : List Deferred) (W : World) : Prop :=
 AtB 86 W p5 #[fB r t] ∧ AtB 87 W p6 #[.map (some m)] ∧ AtB 30 W p8 (rcA R) ∧ HoldC wI.heap.size wI W ∧ DoneM m st.1 W ∧ OwnP p8 vo st.2 W ∧ Marks p8 ds W ∧ Below w.heap.size w W
theorem OutF.below {w wI : World} {r t p5 p6 m p8 : Nat} {R : Rc} {st : ScSt} {vo : Value} {ds : List Deferred} {W W' : World} (h : OutF w wI r t p5 p6 m p8 R st vo ds W) (hb : Below W.heap.size W W') : OutF w wI r t p5 p6 m p8 R st vo ds W' := by
 obtain ⟨h1, h2, h3, h4, h5, h6, h7, h8⟩ := h
 exact ⟨h1.of_eq (hb.block _ h1.lt), h2.of_eq (hb.block _ h2.lt), h3.of_eq (hb.block _ h3.lt), h4.below hb, h5.below hb, h6.below hb, h7.below hb, h8.trans (hb.mono h8.size)⟩
/-- A polygon is appended. -/
theorem OutF.turn {w wI : World} {r t p5 p6 m p8 : Nat} {R : Rc} {L : List Ed} {P P' : List (List Pnt)} {vo vo' : Value} {ds : List Deferred} {W W' : World} (h : OutF w wI r t p5 p6 m p8 R (L, P) vo ds W) (hg : W.grownBy W' vo.ownBlock) (ho : wI.heap.size ≤ p8 ∧ w.heap.size ≤ p8 ∧ p5 < p8 ∧ p6 < p8 ∧ m < p8) (hp : OwnP p8 vo' P' W') : OutF w wI r t p5 p6 m p8 R (L, P') vo' ds W' := by
 obtain ⟨h1, h2, h3, h4, h5, h6, h7, h8⟩ := h
 have hb : ∀ r, vo.ownBlock = some r → p8 ≤ r := fun r e => (h6.blk e).1
 refine ⟨h1.of_eq (hg.block _ h1.lt (fun e => by have := hb _ e.symm; omega)), h2.of_eq (hg.block _ h2.lt (fun e => by have := hb _ e.symm; omega)), h3.of_eq (hg.block _ h3.lt (fun e => ?_)), h4.grown hg (fun r e => by have := hb r e; omega), h5.kept hg (fun e => by have := hb _ e.symm; omega), hp, h7.kept (fun D hD _ => hD.of_eq (hg.block _ hD.lt (fun e => ?_))), Below.grown' h8 (Nat.le_refl _) hg (fun r e => by have := hb r e; omega)⟩
 ·obtain ⟨_, _, cur, hc⟩ := h6.blk e.symm
  rw [show W.heap[p8]? = _ from h3] at hc
  injection hc with hc
  injection hc with _ hc
  revert hc
  decide
 ·obtain ⟨_, _, cur, hc⟩ := h6.blk e.symm
  rw [show W.heap[D]? = _ from hD] at hc
  cases hc
/-- The slots that are read again. -/
def OutT (r t p5 p6 p8 : Nat) (vo : Value) (a : Act) : Prop :=
 a.tmps.size = 103 ∧ a.tmps.getD 2 undef = .pointer (some ⟨r, 0, none⟩) ∧ a.tmps.getD 3 undef = .pointer (some ⟨t, 0, none⟩) ∧ a.tmps.getD 5 undef = .pointer (some ⟨p5, 0, none⟩) ∧ a.tmps.getD 6 undef = .pointer (some ⟨p6, 0, none⟩) ∧ a.tmps.getD 7 undef = vo ∧ a.tmps.getD 8 undef = .pointer (some ⟨p8, 0, none⟩)
set_option maxHeartbeats 16000000 in
theorem P_Outline1 (v : Value) (ls : List TA) (th : Int) (w : World) (h : RS v ls w) (tk : TokL ls) (hn : ls.length ≤ maxLen) (hv : validL ls = true) (h0 : 1 ≤ th) (hwf : (Lit.int .i64 th).wf = true) (hR : -100 ≤ (boundL ls).x0 ∧ (boundL ls).x1 ≤ 100 ∧ -100 ≤ (boundL ls).y0 ∧ (boundL ls).y1 ≤ 100) : Calls Tryz.prog 22 #[.agg #[v], .int .i64 th] w fun e w' => ∃ v', e = .returned v' ∧ RPoly v' (outlG (setG ls th) (boundL ls)) w' ∧ Below w.heap.size w w' := by
 have B := Below.refl w.heap.size w
 have rs := h
 have q1 : decide (th < 1) = false := decide_eq_false (by omega)
 have HBX := Lib.hid (setG_box ls h0)
 have HSM := Lib.hid hR
 have TK := Lib.hid tk
 clear h
 refine (callsIn_wide (n := 3)).1 ?_
 refine callsIn_of_wp_marks Tryz.func22 rfl trivial ?_ rfl
 simp only [Tryz.ntmps22, List.size_toArray, List.length_cons, List.length_nil, Nat.reduceAdd, Nat.reduceSub, Array.replicate_succ, Array.replicate_zero, List.push_toArray, List.append_toArray, List.nil_append, List.cons_append]
 refine wpIn_wide.2 ?_
 go_upto_region 0 with fail
 refine wp_region_lit ?_
 try simp only [gelS]
 (refine wpList_boxB (t := 34) rfl _ rfl _ rfl ?_; intro b_r2 wn hle hge ht hbn hzn; have hsz := B.size; replace B := B.trans (hbn.mono (by omega)); have hln := Nat.lt_of_lt_of_eq (Nat.lt_succ_self _) hzn.symm; clear hzn; (try have hlt := rs.lt); (try replace rs := rs.below (hbn.mono hle)); have r2 := ht; clear ht; simp only [putS])
 (refine wpList_boxV (t := 3) rfl _ rfl (.int .i64 th) rfl rfl ?_; intro b_r3 wn hle hge ht hbn hzn; have hsz := B.size; replace B := B.trans (hbn.mono (by omega)); have hln := Nat.lt_of_lt_of_eq (Nat.lt_succ_self _) hzn.symm; clear hzn; (try have hlt := r2.lt); (try replace r2 := r2.below (hbn.mono hle)); (try have hlt := rs.lt); (try replace rs := rs.below (hbn.mono hle)); have r3 := ht; clear ht; simp only [putS])
 refine wpList_chunk 1 (by kernel_rfl) ?_
 simp only [takS, Nat.reduceAdd]
 repeat (first | go_big_quiet_skip | (go_big_quiet_want; go_big_quiet_op; go_big_quiet_on))
 refine wpQuiet_nil ?_
 refine wpList_nil ?_
 obtain ⟨wI, hwI⟩ : ∃ x, x = wn := ⟨_, rfl⟩
 subst hwI
 have HI := Lib.hid (show InB b_r2 b_r3 ls th wI from ⟨v, r2, r3, rs⟩)
 have HW := HoldC.of_below (Below.refl wI.heap.size wI)
 have n0I := B.size
 go_upto_region 1 with fail
 refine wp_region_lit ?_
 try simp only [gelS]
 refine wpList_chunk 4 (by kernel_rfl) ?_
 simp only [takS, Nat.reduceAdd]
 repeat (first | go_big_quiet_skip | (go_big_quiet_want; first | (refine quiet_loadAny (t := 34) rfl _ _ _ rfl (fun w hw => run_load_ras ((ov_B r2 w hw).cellL 0 rfl)) (by first | rfl | omega) ?_; simp only [putS]; go_big_quiet_on) | (refine quiet_loadAny (t := 3) rfl _ _ _ rfl (fun w hw => run_load_int ((ov_B r3 w hw).cellL 0 rfl)) (by first | rfl | omega) ?_; simp only [putS]; go_big_quiet_on) | (go_big_quiet_op; go_big_quiet_on)))
 refine wpQuiet_nil ?_
 refine wpList_callF (by first | rfl | simp [Region.wanted, yielded]) rfl (enters_of Tryz.func56 (by kernel_rfl) rfl) (by simp only [Act.eval, evlS]; rfl) ?_
 refine (P_ValidB v ls true _ rs TK.out hn hv).mono ?_
 rintro e wn ⟨rfl, hbn⟩
 have hsz := B.size
 have hzn := hbn.size
 replace B := B.trans (hbn.mono B.size)
 (try replace HW := HW.below hbn)
 (try replace rs := rs.below hbn)
 (try replace r2 := r2.below hbn)
 (try replace r3 := r3.below hbn)
 refine ⟨_, rfl, ?_⟩
 simp only [putS]
 refine wpList_chunk 2 (by kernel_rfl) ?_
 simp only [takS, Nat.reduceAdd]
 repeat (first | go_big_quiet_skip | (go_big_quiet_want; go_big_quiet_op; go_big_quiet_on))
 refine wpQuiet_nil ?_
 refine wpList_nil ?_
 go_upto_region 3 with fail
 refine wp_region_lit ?_
 try simp only [gelS]
 (refine wpList_val rfl (.func (.func 57) #[] #[.pointer (some ⟨b_r2, 0, none⟩), .pointer (some ⟨b_r3, 0, none⟩)]) (by first | rfl | simp [go_sem, Act.eval]) ?_; simp only [putS])
 refine wpList_chunk 1 (by kernel_rfl) ?_
 simp only [takS, Nat.reduceAdd]
 repeat (first | go_big_quiet_skip | (go_big_quiet_want; go_big_quiet_op; go_big_quiet_on))
 refine wpQuiet_nil ?_
 (refine wpList_allocBk (t := 86) rfl _ (run_alloc_Bd _ _ rfl) ?_; intro b_p5 wn hle hge ht hbn hzn; have hsz := B.size; replace B := B.trans (hbn.mono (by omega)); have hln := Nat.lt_of_lt_of_eq (Nat.lt_succ_self _) hzn.symm; clear hzn; (try have hlt := HW.lt); (try replace HW := HW.below (hbn.mono hle)); (try have hlt := rs.lt); (try replace rs := rs.below (hbn.mono hle)); (try have hlt := r2.lt); (try replace r2 := r2.below (hbn.mono hle)); have p5 := ht; clear ht; simp only [putS])
 (refine wpList_storeB (t := 86) rfl _ _ rfl _ rfl _ rfl p5 (by kernel_rfl) rfl (by kernel_rfl) ?_; have p5o := p5; have p5o := p5; clear p5; intro wn ht hcn hzn; (try replace rs := rs.chg p5o (by simp) hcn); (try replace HW := HW.chg p5o (by omega) hcn); have hsz := B.size; replace hzn := Nat.le_of_eq hzn.symm; replace B := Chg.below B hcn (by omega) B.size; (try replace HW := HW.of_eq (hcn.block _ HW.lt (by omega))); (try replace rs := rs.of_eq (hcn.block _ rs.lt (by omega))); (try replace r2 := r2.of_eq (hcn.block _ r2.lt (by omega))); have p5 := ht; clear ht; simp only [putS])
 refine wpList_nil ?_
 replace p5 : AtB 86 _ b_p5 #[fB b_r2 b_r3] := p5
 have kp5 := p5.lt
 go_upto_region 4 with fail
 refine wp_region_lit ?_
 try simp only [gelS]
 (refine wpList_mkMap rfl rfl ?_; intro b_dm wn hle hge ht hbn hzn; have hsz := B.size; replace B := B.trans (hbn.mono (by omega)); have hln := Nat.lt_of_lt_of_eq (Nat.lt_succ_self _) hzn.symm; clear hzn; (try have hlt := HW.lt); (try replace HW := HW.below (hbn.mono hle)); (try have hlt := rs.lt); (try replace rs := rs.below (hbn.mono hle)); (try have hlt := r2.lt); (try replace r2 := r2.below (hbn.mono hle)); (try have hlt := p5.lt); (try replace p5 := p5.below (hbn.mono hle)); have dm := ht; clear ht; simp only [putS])
 (refine wpList_allocBk (t := 87) rfl _ (run_alloc_Mv _ _ rfl) ?_; intro b_p6 wn hle hge ht hbn hzn; have hsz := B.size; replace B := B.trans (hbn.mono (by omega)); have hln := Nat.lt_of_lt_of_eq (Nat.lt_succ_self _) hzn.symm; clear hzn; (try have hlt := HW.lt); (try replace HW := HW.below (hbn.mono hle)); (try have hlt := rs.lt); (try replace rs := rs.below (hbn.mono hle)); (try have hlt := r2.lt); (try replace r2 := r2.below (hbn.mono hle)); (try have hlt := p5.lt); (try replace p5 := p5.below (hbn.mono hle)); (try have hlt := dm.lt); (try replace dm := dm.below (hbn.mono hle)); have p6 := ht; clear ht; simp only [putS])
 (refine wpList_storeMv rfl _ _ rfl _ _ rfl rfl p6 ?_; have p6o := p6; have p6o := p6; have p6o := p6; clear p6; intro wn ht hcn hzn; (try replace dm := dm.chg p6o trivial hcn); (try replace rs := rs.chg p6o (by simp) hcn); (try replace HW := HW.chg p6o (by omega) hcn); have hsz := B.size; replace hzn := Nat.le_of_eq hzn.symm; replace B := Chg.below B hcn (by omega) B.size; (try replace HW := HW.of_eq (hcn.block _ HW.lt (by omega))); (try replace rs := rs.of_eq (hcn.block _ rs.lt (by omega))); (try replace r2 := r2.of_eq (hcn.block _ r2.lt (by omega))); (try replace p5 := p5.of_eq (hcn.block _ p5.lt (by omega))); have p6 := ht; clear ht; simp only [putS])
 refine wpList_nil ?_
 have kp6 := p6.lt
 have kdm := dm.lt
 go_upto_region 5 with fail
 refine wp_region_lit ?_
 try simp only [gelS]
 refine wpList_chunk 1 (by kernel_rfl) ?_
 simp only [takS, Nat.reduceAdd]
 repeat (first | go_big_quiet_skip | (go_big_quiet_want; go_big_quiet_op; go_big_quiet_on))
 refine wpQuiet_nil ?_
 refine wpList_nil ?_
 go_upto_region 6 with fail
 refine wp_region_lit ?_
 try simp only [gelS]
 refine wpList_chunk 1 (by kernel_rfl) ?_
 simp only [takS, Nat.reduceAdd]
 repeat (first | go_big_quiet_skip | (go_big_quiet_want; first | (refine quiet_loadAny (t := 34) rfl _ _ _ rfl (fun w hw => run_load_ras ((ov_B r2 w hw).cellL 0 rfl)) (by first | rfl | omega) ?_; simp only [putS]; go_big_quiet_on) | (go_big_quiet_op; go_big_quiet_on)))
 refine wpQuiet_nil ?_
 refine wpList_callF (by first | rfl | simp [Region.wanted, yielded]) rfl (enters_of Tryz.func59 (by kernel_rfl) rfl) (by simp only [Act.eval, evlS]; rfl) ?_
 refine (P_BoundsV v ls _ rs TK.out hn hv).mono ?_
 rintro e wn ⟨rfl, hbn⟩
 have hsz := B.size
 have hzn := hbn.size
 replace B := B.trans (hbn.mono B.size)
 (try replace HW := HW.below hbn)
 (try replace rs := rs.below hbn)
 (try replace r2 := r2.below hbn)
 (try replace p5 := p5.below hbn)
 (try replace p6 := p6.below hbn)
 (try replace dm := dm.below hbn)
 (try replace r2 := r2.below hbn)
 refine ⟨_, rfl, ?_⟩
 simp only [putS]
 (refine wpList_allocBk (t := 30) rfl _ (run_alloc_Rc _ _ rfl) ?_; intro b_p8 wn hle hge ht hbn hzn; have hsz := B.size; replace B := B.trans (hbn.mono (by omega)); have hln := Nat.lt_of_lt_of_eq (Nat.lt_succ_self _) hzn.symm; clear hzn; (try have hlt := HW.lt); (try replace HW := HW.below (hbn.mono hle)); (try have hlt := rs.lt); (try replace rs := rs.below (hbn.mono hle)); (try have hlt := r2.lt); (try replace r2 := r2.below (hbn.mono hle)); (try have hlt := p5.lt); (try replace p5 := p5.below (hbn.mono hle)); (try have hlt := p6.lt); (try replace p6 := p6.below (hbn.mono hle)); (try have hlt := dm.lt); (try replace dm := dm.below (hbn.mono hle)); have p8 := ht; clear ht; simp only [putS])
 (refine wpList_storeB (t := 30) rfl _ _ rfl _ rfl _ rfl p8 (by kernel_rfl) rfl (by simp [rcA, Value.oneCell']) ?_; have p8o := p8; have p8o := p8; have p8o := p8; clear p8; intro wn ht hcn hzn; (try replace dm := dm.chg p8o trivial hcn); (try replace rs := rs.chg p8o (by simp [rcA]) hcn); (try replace HW := HW.chg p8o (by omega) hcn); have hsz := B.size; replace hzn := Nat.le_of_eq hzn.symm; replace B := Chg.below B hcn (by omega) B.size; (try replace HW := HW.of_eq (hcn.block _ HW.lt (by omega))); (try replace rs := rs.of_eq (hcn.block _ rs.lt (by omega))); (try replace r2 := r2.of_eq (hcn.block _ r2.lt (by omega))); (try replace p5 := p5.of_eq (hcn.block _ p5.lt (by omega))); (try replace p6 := p6.of_eq (hcn.block _ p6.lt (by omega))); (try replace dm := dm.of_eq (hcn.block _ dm.lt (by omega))); have p8 := ht; clear ht; simp only [putS])
 refine wpList_nil ?_
 replace p8 : AtB 30 _ b_p8 (rcA (boundL ls)) := p8
 have kp8 := p8.lt
 have hbI : wI.heap.size ≤ b_p5 ∧ b_p5 < b_dm ∧ b_dm < b_p6 ∧ b_p6 < b_p8 := by omega
 have hb0 : w.heap.size ≤ b_dm := by omega
 obtain ⟨⟨X0, Y0, X1, Y1⟩, hRR⟩ : ∃ r, boundL ls = r := ⟨_, rfl⟩
 have HRR := Lib.hid hRR
 rw [hRR] at p8 HBX HSM hR
 rw [hRR]
 simp only at hR
 replace p8 : AtB 30 _ b_p8 #[.int .i64 X0, .int .i64 Y0, .int .i64 X1, .int .i64 Y1] := p8
 have hF : OutF w wI b_r2 b_r3 b_p5 b_p6 b_dm b_p8 ⟨X0, Y0, X1, Y1⟩ (scanY (setG ls th) ⟨X0, Y0, X1, Y1⟩ 0) (.slice none 0 0) [] wn := ⟨p5, p6, p8, HW, dm, OwnP.nil _ _, trivial, B⟩
 obtain ⟨H, hH⟩ : ∃ H : Nat, (Y1 - Y0).toNat = H := ⟨_, rfl⟩
 obtain ⟨Wd, hWd⟩ : ∃ H : Nat, (X1 - X0).toNat = H := ⟨_, rfl⟩
 go_upto_region 7 with fail
 refine wp_region_lit ?_
 try simp only [gelS]
 refine wpList_chunk 3 (by kernel_rfl) ?_
 simp only [takS, Nat.reduceAdd]
 repeat (first | go_big_quiet_skip | (go_big_quiet_want; first | (refine quiet_loadAny (t := 3) rfl _ _ _ rfl (fun w hw => run_load_int ((ov_B p8 w hw).cellL 1 rfl)) (by first | rfl | omega) ?_; simp only [putS]; go_big_quiet_on) | (go_big_quiet_op; go_big_quiet_on)))
 refine wpQuiet_nil ?_
 refine wpList_nil ?_
 clear rs r2 r3 p5 p6 p8 dm HW B kp5 kp6 kdm kp8 hRR hv
 go_wp2
 refine wp_loop (fun a W => ∃ (ky : Nat) (vo : Value), ky ≤ H ∧ OutT b_r2 b_r3 b_p5 b_p6 b_p8 vo a ∧ a.tmps.getD 9 undef = .int .i64 (Y0 + (ky : Int)) ∧ OutF w wI b_r2 b_r3 b_p5 b_p6 b_dm b_p8 ⟨X0, Y0, X1, Y1⟩ (scanY (setG ls th) ⟨X0, Y0, X1, Y1⟩ ky) vo a.defers W) (fun a _ => (Y1 - intOf (a.tmps.getD 9 undef)).toNat) ?start ?yround
 case start => exact ⟨0, _, Nat.zero_le _, ⟨rfl, rfl, rfl, rfl, rfl, rfl, rfl⟩, by simp, hF⟩
 case yround =>
  clear hF
  rintro ⟨tm, ds⟩ W ⟨ky, vo, hky, ⟨e0, e2, e3, e5, e6, e7, e8⟩, e9, hF⟩
  obtain ⟨U, hU, hUi⟩ := arr_fn tm 103 e0
  dsimp only at e2 e3 e5 e6 e7 e8 e9 hF
  rw [← hUi] at e2 e3 e5 e6 e7 e8 e9
  have eL : ((List.range 103).map U).toArray = #[U 0, U 1, U 2, U 3, U 4, U 5, U 6, U 7, U 8, U 9, U 10, U 11, U 12, U 13, U 14, U 15, U 16, U 17, U 18, U 19, U 20, U 21, U 22, U 23, U 24, U 25, U 26, U 27, U 28, U 29, U 30, U 31, U 32, U 33, U 34, U 35, U 36, U 37, U 38, U 39, U 40, U 41, U 42, U 43, U 44, U 45, U 46, U 47, U 48, U 49, U 50, U 51, U 52, U 53, U 54, U 55, U 56, U 57, U 58, U 59, U 60, U 61, U 62, U 63, U 64, U 65, U 66, U 67, U 68, U 69, U 70, U 71, U 72, U 73, U 74, U 75, U 76, U 77, U 78, U 79, U 80, U 81, U 82, U 83, U 84, U 85, U 86, U 87, U 88, U 89, U 90, U 91, U 92, U 93, U 94, U 95, U 96, U 97, U 98, U 99, U 100, U 101, U 102] := rfl
  rw [eL] at hU
  rw [e2, e3, e5, e6, e7, e8, e9] at hU
  subst hU
  clear e0 e2 e3 e5 e6 e7 e8 e9 hUi eL
  by_cases hkH : ky < H
  ·have q2 : decide (Y0 + (ky : Int) < Y1) = true := decide_eq_true (by omega)
   have p8 : AtB 30 W b_p8 #[.int .i64 X0, .int .i64 Y0, .int .i64 X1, .int .i64 Y1] := hF.2.2.1
   go_upto_region 8 with fail
   refine wp_region_lit ?_
   try simp only [gelS]
   refine wpList_chunk 4 (by kernel_rfl) ?_
   simp only [takS, Nat.reduceAdd]
   repeat (first | go_big_quiet_skip | (go_big_quiet_want; first | (refine quiet_loadAny (t := 3) rfl _ _ _ rfl (fun w hw => run_load_int ((ov_B p8 w hw).cellL 3 rfl)) (by first | rfl | omega) ?_; simp only [putS]; go_big_quiet_on) | (go_big_quiet_op; go_big_quiet_on)))
   refine wpQuiet_nil ?_
   refine wpList_nil ?_
   go_upto_region 10 with fail
   refine wp_region_lit ?_
   try simp only [gelS]
   refine wpList_chunk 3 (by kernel_rfl) ?_
   simp only [takS, Nat.reduceAdd]
   repeat (first | go_big_quiet_skip | (go_big_quiet_want; first | (refine quiet_loadAny (t := 3) rfl _ _ _ rfl (fun w hw => run_load_int ((ov_B p8 w hw).cellL 0 rfl)) (by first | rfl | omega) ?_; simp only [putS]; go_big_quiet_on) | (go_big_quiet_op; go_big_quiet_on)))
   refine wpQuiet_nil ?_
   refine wpList_nil ?_
   clear p8 q2
   go_wp2
   refine wp_loop (fun a W => ∃ (kx : Nat) (vo : Value), kx ≤ Wd ∧ OutT b_r2 b_r3 b_p5 b_p6 b_p8 vo a ∧ a.tmps.getD 9 undef = .int .i64 (Y0 + (ky : Int)) ∧ a.tmps.getD 10 undef = .int .i64 (X0 + (kx : Int)) ∧ OutF w wI b_r2 b_r3 b_p5 b_p6 b_dm b_p8 ⟨X0, Y0, X1, Y1⟩ (scanX (setG ls th) ⟨X0, Y0, X1, Y1⟩ (Y0 + (ky : Int)) (scanY (setG ls th) ⟨X0, Y0, X1, Y1⟩ ky) kx) vo a.defers W) (fun a _ => (X1 - intOf (a.tmps.getD 10 undef)).toNat) ?startx ?xround
   case startx => exact ⟨0, _, Nat.zero_le _, ⟨rfl, rfl, rfl, rfl, rfl, rfl, rfl⟩, rfl, by simp, hF⟩
   case xround =>
    clear hF
    rintro ⟨tm, ds⟩ W ⟨kx, vo, hkx, ⟨e0, e2, e3, e5, e6, e7, e8⟩, e9, e10, hF⟩
    obtain ⟨U, hU, hUi⟩ := arr_fn tm 103 e0
    dsimp only at e2 e3 e5 e6 e7 e8 e9 e10 hF
    rw [← hUi] at e2 e3 e5 e6 e7 e8 e9 e10
    have eL : ((List.range 103).map U).toArray = #[U 0, U 1, U 2, U 3, U 4, U 5, U 6, U 7, U 8, U 9, U 10, U 11, U 12, U 13, U 14, U 15, U 16, U 17, U 18, U 19, U 20, U 21, U 22, U 23, U 24, U 25, U 26, U 27, U 28, U 29, U 30, U 31, U 32, U 33, U 34, U 35, U 36, U 37, U 38, U 39, U 40, U 41, U 42, U 43, U 44, U 45, U 46, U 47, U 48, U 49, U 50, U 51, U 52, U 53, U 54, U 55, U 56, U 57, U 58, U 59, U 60, U 61, U 62, U 63, U 64, U 65, U 66, U 67, U 68, U 69, U 70, U 71, U 72, U 73, U 74, U 75, U 76, U 77, U 78, U 79, U 80, U 81, U 82, U 83, U 84, U 85, U 86, U 87, U 88, U 89, U 90, U 91, U 92, U 93, U 94, U 95, U 96, U 97, U 98, U 99, U 100, U 101, U 102] := rfl
    rw [eL] at hU
    rw [e2, e3, e5, e6, e7, e8, e9, e10] at hU
    subst hU
    clear e0 e2 e3 e5 e6 e7 e8 e9 e10 hUi eL
    by_cases hkW : kx < Wd
    ·have q2 : decide (X0 + (kx : Int) < X1) = true := decide_eq_true (by omega)
     have hSL := scan_small HBX.out HSM.out (i := ky) (j := kx) (by show ky ≤ (Y1 - Y0).toNat; omega) (by show kx ≤ (X1 - X0).toNat; omega) (Y0 + (ky : Int))
     have HST := Lib.hid (show scanX (setG ls th) ⟨X0, Y0, X1, Y1⟩ (Y0 + (ky : Int)) (scanY (setG ls th) ⟨X0, Y0, X1, Y1⟩ ky) (kx + 1) = scan1 (setG ls th) ⟨X0, Y0, X1, Y1⟩ (scanX (setG ls th) ⟨X0, Y0, X1, Y1⟩ (Y0 + (ky : Int)) (scanY (setG ls th) ⟨X0, Y0, X1, Y1⟩ ky) kx) (X0 + (kx : Int)) (Y0 + (ky : Int)) from rfl)
     obtain ⟨⟨L, PS⟩, hst⟩ : ∃ z, scanX (setG ls th) ⟨X0, Y0, X1, Y1⟩ (Y0 + (ky : Int)) (scanY (setG ls th) ⟨X0, Y0, X1, Y1⟩ ky) kx = z := ⟨_, rfl⟩
     rw [hst] at hF hSL HST
     obtain ⟨p5, p6, p8, HW, dm, op, mk, B⟩ := hF
     simp only at dm op hSL
     replace p8 : AtB 30 W b_p8 #[.int .i64 X0, .int .i64 Y0, .int .i64 X1, .int .i64 Y1] := p8
     obtain ⟨x, hx⟩ : ∃ x, X0 + (kx : Int) = x := ⟨_, rfl⟩
     obtain ⟨y, hy⟩ : ∃ y, Y0 + (ky : Int) = y := ⟨_, rfl⟩
     rw [hx] at q2 HST ⊢
     rw [hy] at HST ⊢
     have wfe : WfE ⟨x, y, 0⟩ := ⟨wf_mk (x := x) (by omega) (by omega), wf_mk (x := y) (by omega) (by omega), rfl⟩
     have hws := B.size
     have HWs := Lib.hid (show wI.heap.size ≤ W.heap.size from by have := p5.lt; omega)
     have BW := Lib.hid B
     replace B := Below.refl W.heap.size W
     go_upto_region 11 with fail
     refine wp_region_lit ?_
     try simp only [gelS]
     refine wpList_chunk 4 (by kernel_rfl) ?_
     simp only [takS, Nat.reduceAdd]
     repeat (first | go_big_quiet_skip | (go_big_quiet_want; first | (refine quiet_loadAny (t := 3) rfl _ _ _ rfl (fun w hw => run_load_int ((ov_B p8 w hw).cellL 2 rfl)) (by first | rfl | omega) ?_; simp only [putS]; go_big_quiet_on) | (go_big_quiet_op; go_big_quiet_on)))
     refine wpQuiet_nil ?_
     refine wpList_nil ?_
     go_upto_region 13 with fail
     refine wp_region_lit ?_
     try simp only [gelS]
     refine wpList_chunk 2 (by kernel_rfl) ?_
     simp only [takS, Nat.reduceAdd]
     repeat (first | go_big_quiet_skip | (go_big_quiet_want; go_big_quiet_op; go_big_quiet_on))
     refine wpQuiet_nil ?_
     (refine wpList_val rfl (.agg #[.int .i64 x, .int .i64 y, .int .i64 0]) (by kernel_rfl) ?_; simp only [putS])
     (refine wpList_allocBk (t := 90) rfl _ (run_alloc_St _ _ rfl) ?_; intro b_p11 wn hle hge ht hbn hzn; have hsz := B.size; replace B := B.trans (hbn.mono (by omega)); have hln := Nat.lt_of_lt_of_eq (Nat.lt_succ_self _) hzn.symm; clear hzn; (try have hlt := p5.lt); (try replace p5 := p5.below (hbn.mono hle)); (try have hlt := p6.lt); (try replace p6 := p6.below (hbn.mono hle)); (try have hlt := p8.lt); (try replace p8 := p8.below (hbn.mono hle)); (try have hlt := HW.lt); (try replace HW := HW.below (hbn.mono hle)); (try have hlt := dm.lt); (try replace dm := dm.below (hbn.mono hle)); (try have hlt := op.lt); (try replace op := op.below (hbn.mono hle)); (try have hlt := mk.lt); (try replace mk := mk.below (hbn.mono hle)); have p11 := ht; clear ht; simp only [putS])
     (refine wpList_storeB (t := 90) rfl _ _ rfl _ rfl _ rfl p11 (by kernel_rfl) rfl (by simp [edC, Value.oneCell']) ?_; have p11o := p11; have p11o := p11; have p11o := p11; clear p11; intro wn ht hcn hzn; (try replace dm := dm.chg p11o trivial hcn); (try replace mk := mk.chg p11o trivial hcn); (try replace op := op.chg p11o (by decide) hcn); (try replace HW := HW.chg p11o (by omega) hcn); have hsz := B.size; replace hzn := Nat.le_of_eq hzn.symm; replace B := Chg.below B hcn (by omega) B.size; (try replace p5 := p5.of_eq (hcn.block _ p5.lt (by omega))); (try replace p6 := p6.of_eq (hcn.block _ p6.lt (by omega))); (try replace p8 := p8.of_eq (hcn.block _ p8.lt (by omega))); (try replace HW := HW.of_eq (hcn.block _ HW.lt (by omega))); (try replace dm := dm.of_eq (hcn.block _ dm.lt (by omega))); (try replace op := op.of_eq (hcn.block _ op.lt (by omega))); (try replace mk := mk.of_eq (hcn.block _ mk.lt (by omega))); have p11 := ht; clear ht; simp only [putS])
     refine wpList_nil ?_
     replace p11 : AtB 90 _ b_p11 #[.int .i64 x, .int .i64 y, .int .i64 0] := p11
     have hI := HI.out.hold HW
     have bx : -100000 ≤ x ∧ x ≤ 100000 := by omega
     have by_ : -100000 ≤ y ∧ y ≤ 100000 := by omega
     cases hdn : decide ((⟨x, y, 0⟩ : Ed) ∈ L) with
     | true =>
      have hst2 := Lib.hid (show scan1 (setG ls th) ⟨X0, Y0, X1, Y1⟩ (L, PS) x y = (L, PS) from by unfold scan1; rw [if_pos (by simp only [hdn, Bool.true_or])])
      go_upto_region 14 with fail
      refine wp_region_lit ?_
      try simp only [gelS]
      refine wpList_chunk 2 (by kernel_rfl) ?_
      simp only [takS, Nat.reduceAdd]
      repeat (first | go_big_quiet_skip | (go_big_quiet_want; first | (refine quiet_loadAny (t := 87) rfl _ _ _ rfl (fun w hw => run_load_mv ((ov_B p6 w hw).cellL 0 rfl)) (by first | rfl | omega) ?_; simp only [putS]; go_big_quiet_on) | (refine quiet_loadAny (t := 90) rfl _ _ _ rfl (fun w hw => run_load_B (ov_B p11 w hw) Tryz.isAgg90 (by kernel_rfl)) (by rfl) ?_; simp only [putS]; go_big_quiet_on) | (go_big_quiet_op; go_big_quiet_on)))
      refine wpQuiet_nil ?_
      (refine wpList_look rfl _ _ rfl rfl dm ⟨x, y, 0⟩ rfl wfe true hdn ?_; simp only [putS])
      refine wpList_chunk 3 (by kernel_rfl) ?_
      simp only [takS, Nat.reduceAdd]
      repeat (first | go_big_quiet_skip | (go_big_quiet_want; first | (refine quiet_loadAny (t := 90) rfl _ _ _ rfl (fun w hw => run_load_B (ov_B p11 w hw) Tryz.isAgg90 (by kernel_rfl)) (by rfl) ?_; simp only [putS]; go_big_quiet_on) | (go_big_quiet_op; go_big_quiet_on)))
      refine wpQuiet_nil ?_
      refine wpList_skip ?hs15_6 ?_
      case hs15_6 => kernel_rfl
      simp only [putS]
      refine wpList_chunk 2 (by kernel_rfl) ?_
      simp only [takS, Nat.reduceAdd]
      repeat (first | go_big_quiet_skip | (go_big_quiet_want; go_big_quiet_op; go_big_quiet_on))
      refine wpQuiet_nil ?_
      refine wpList_nil ?_
      go_upto_region 12 with fail
      refine wp_region_lit ?_
      try simp only [gelS]
      refine wpList_chunk 3 (by kernel_rfl) ?_
      simp only [takS, Nat.reduceAdd]
      repeat (first | go_big_quiet_skip | (go_big_quiet_want; go_big_quiet_op; go_big_quiet_on))
      refine wpQuiet_nil ?_
      refine wpList_nil ?_
      go_wp2
      refine ⟨⟨kx + 1, vo, by omega, ⟨rfl, rfl, rfl, rfl, rfl, rfl, rfl⟩, rfl, by show Value.int _ _ = _; congr 1; omega, ?_⟩, ?_⟩
      ·rw [HST.out, hst2.out]
       exact ⟨p5, p6, p8, HW, dm, op, mk, BW.out.trans (B.mono hws)⟩
      ·show (X1 - intOf (.int .i64 _)).toNat < (X1 - intOf (.int .i64 _)).toNat
       simp only [intOf]; omega
     | false =>
      cases hhs : hasE (setG ls th) x y 0 with
      | false =>
       have hst2 := Lib.hid (show scan1 (setG ls th) ⟨X0, Y0, X1, Y1⟩ (L, PS) x y = (L, PS) from by unfold scan1; rw [if_pos (by simp only [hhs, Bool.not_false, Bool.or_true])])
       go_upto_region 14 with fail
       refine wp_region_lit ?_
       try simp only [gelS]
       refine wpList_chunk 2 (by kernel_rfl) ?_
       simp only [takS, Nat.reduceAdd]
       repeat (first | go_big_quiet_skip | (go_big_quiet_want; first | (refine quiet_loadAny (t := 87) rfl _ _ _ rfl (fun w hw => run_load_mv ((ov_B p6 w hw).cellL 0 rfl)) (by first | rfl | omega) ?_; simp only [putS]; go_big_quiet_on) | (refine quiet_loadAny (t := 90) rfl _ _ _ rfl (fun w hw => run_load_B (ov_B p11 w hw) Tryz.isAgg90 (by kernel_rfl)) (by rfl) ?_; simp only [putS]; go_big_quiet_on) | (go_big_quiet_op; go_big_quiet_on)))
       refine wpQuiet_nil ?_
       (refine wpList_look rfl _ _ rfl rfl dm ⟨x, y, 0⟩ rfl wfe false hdn ?_; simp only [putS])
       refine wpList_chunk 3 (by kernel_rfl) ?_
       simp only [takS, Nat.reduceAdd]
       repeat (first | go_big_quiet_skip | (go_big_quiet_want; first | (refine quiet_loadAny (t := 90) rfl _ _ _ rfl (fun w hw => run_load_B (ov_B p11 w hw) Tryz.isAgg90 (by kernel_rfl)) (by rfl) ?_; simp only [putS]; go_big_quiet_on) | (refine quiet_loadAny (t := 86) rfl _ _ _ rfl (fun w hw => run_load_B (ov_B p5 w hw) Tryz.isAgg86 (by kernel_rfl)) (by rfl) ?_; simp only [putS]; go_big_quiet_on) | (go_big_quiet_op; go_big_quiet_on)))
       refine wpQuiet_nil ?_
       refine wpList_callF (by first | rfl | simp [Region.wanted, yielded]) rfl (enters_of Tryz.func60 (by kernel_rfl) rfl) (by simp only [Act.eval, evlS]; rfl) ?_
       refine (P_has b_r2 b_r3 ls th x y 0 false _ hI TK.out hn bx by_ ⟨by omega, by omega⟩ hhs).mono ?_
       rintro e wn ⟨rfl, hbn⟩
       have hsz := B.size
       have hzn := hbn.size
       replace B := B.trans (hbn.mono B.size)
       (try replace p5 := p5.below hbn)
       (try replace p6 := p6.below hbn)
       (try replace p8 := p8.below hbn)
       (try replace HW := HW.below hbn)
       (try replace dm := dm.below hbn)
       (try replace op := op.below hbn)
       (try replace mk := mk.below hbn)
       (try replace p11 := p11.below hbn)
       refine ⟨_, rfl, ?_⟩
       simp only [putS]
       refine wpList_chunk 2 (by kernel_rfl) ?_
       simp only [takS, Nat.reduceAdd]
       repeat (first | go_big_quiet_skip | (go_big_quiet_want; go_big_quiet_op; go_big_quiet_on))
       refine wpQuiet_nil ?_
       refine wpList_nil ?_
       go_upto_region 12 with fail
       refine wp_region_lit ?_
       try simp only [gelS]
       refine wpList_chunk 3 (by kernel_rfl) ?_
       simp only [takS, Nat.reduceAdd]
       repeat (first | go_big_quiet_skip | (go_big_quiet_want; go_big_quiet_op; go_big_quiet_on))
       refine wpQuiet_nil ?_
       refine wpList_nil ?_
       go_wp2
       refine ⟨⟨kx + 1, vo, by omega, ⟨rfl, rfl, rfl, rfl, rfl, rfl, rfl⟩, rfl, by show Value.int _ _ = _; congr 1; omega, ?_⟩, ?_⟩
       ·rw [HST.out, hst2.out]
        exact ⟨p5, p6, p8, HW, dm, op, mk, BW.out.trans (B.mono hws)⟩
       ·show (X1 - intOf (.int .i64 _)).toNat < (X1 - intOf (.int .i64 _)).toNat
        simp only [intOf]; omega
      | true =>
       have hst2 := Lib.hid (show scan1 (setG ls th) ⟨X0, Y0, X1, Y1⟩ (L, PS) x y = (L ++ folE (setG ls th) ⟨X0, Y0, X1, Y1⟩ ⟨x, y, 0⟩, PS ++ [cornG (folE (setG ls th) ⟨X0, Y0, X1, Y1⟩ ⟨x, y, 0⟩)]) from by unfold scan1; rw [if_neg (by simp only [hdn, hhs, Bool.not_true, Bool.or_self]; decide)])
       go_upto_region 14 with fail
       refine wp_region_lit ?_
       try simp only [gelS]
       refine wpList_chunk 2 (by kernel_rfl) ?_
       simp only [takS, Nat.reduceAdd]
       repeat (first | go_big_quiet_skip | (go_big_quiet_want; first | (refine quiet_loadAny (t := 87) rfl _ _ _ rfl (fun w hw => run_load_mv ((ov_B p6 w hw).cellL 0 rfl)) (by first | rfl | omega) ?_; simp only [putS]; go_big_quiet_on) | (refine quiet_loadAny (t := 90) rfl _ _ _ rfl (fun w hw => run_load_B (ov_B p11 w hw) Tryz.isAgg90 (by kernel_rfl)) (by rfl) ?_; simp only [putS]; go_big_quiet_on) | (go_big_quiet_op; go_big_quiet_on)))
       refine wpQuiet_nil ?_
       (refine wpList_look rfl _ _ rfl rfl dm ⟨x, y, 0⟩ rfl wfe false hdn ?_; simp only [putS])
       refine wpList_chunk 3 (by kernel_rfl) ?_
       simp only [takS, Nat.reduceAdd]
       repeat (first | go_big_quiet_skip | (go_big_quiet_want; first | (refine quiet_loadAny (t := 90) rfl _ _ _ rfl (fun w hw => run_load_B (ov_B p11 w hw) Tryz.isAgg90 (by kernel_rfl)) (by rfl) ?_; simp only [putS]; go_big_quiet_on) | (refine quiet_loadAny (t := 86) rfl _ _ _ rfl (fun w hw => run_load_B (ov_B p5 w hw) Tryz.isAgg86 (by kernel_rfl)) (by rfl) ?_; simp only [putS]; go_big_quiet_on) | (go_big_quiet_op; go_big_quiet_on)))
       refine wpQuiet_nil ?_
       refine wpList_callF (by first | rfl | simp [Region.wanted, yielded]) rfl (enters_of Tryz.func60 (by kernel_rfl) rfl) (by simp only [Act.eval, evlS]; rfl) ?_
       refine (P_has b_r2 b_r3 ls th x y 0 true _ hI TK.out hn bx by_ ⟨by omega, by omega⟩ hhs).mono ?_
       rintro e wn ⟨rfl, hbn⟩
       have hsz := B.size
       have hzn := hbn.size
       replace B := B.trans (hbn.mono B.size)
       (try replace p5 := p5.below hbn)
       (try replace p6 := p6.below hbn)
       (try replace p8 := p8.below hbn)
       (try replace HW := HW.below hbn)
       (try replace dm := dm.below hbn)
       (try replace op := op.below hbn)
       (try replace mk := mk.below hbn)
       (try replace p11 := p11.below hbn)
       refine ⟨_, rfl, ?_⟩
       simp only [putS]
       refine wpList_chunk 2 (by kernel_rfl) ?_
       simp only [takS, Nat.reduceAdd]
       repeat (first | go_big_quiet_skip | (go_big_quiet_want; go_big_quiet_op; go_big_quiet_on))
       refine wpQuiet_nil ?_
       refine wpList_nil ?_
       clear hI
       have k8 := p8.lt
       go_upto_region 15 with fail
       refine wp_region_lit ?_
       try simp only [gelS]
       (refine wpList_allocBk (t := 92) rfl _ (run_alloc_Ss _ _ rfl) ?_; intro b_l12 wn hle hge ht hbn hzn; have hsz := B.size; replace B := B.trans (hbn.mono (by omega)); have hln := Nat.lt_of_lt_of_eq (Nat.lt_succ_self _) hzn.symm; clear hzn; (try have hlt := p5.lt); (try replace p5 := p5.below (hbn.mono hle)); (try have hlt := p6.lt); (try replace p6 := p6.below (hbn.mono hle)); (try have hlt := p8.lt); (try replace p8 := p8.below (hbn.mono hle)); (try have hlt := HW.lt); (try replace HW := HW.below (hbn.mono hle)); (try have hlt := dm.lt); (try replace dm := dm.below (hbn.mono hle)); (try have hlt := op.lt); (try replace op := op.below (hbn.mono hle)); (try have hlt := mk.lt); (try replace mk := mk.below (hbn.mono hle)); (try have hlt := p11.lt); (try replace p11 := p11.below (hbn.mono hle)); have l12 := ht; clear ht; simp only [putS])
       refine wpList_nil ?_
       have n8 : b_p8 < b_l12 := by omega
       have kl12 := l12.lt
       clear k8
       go_upto_region 16 with fail
       refine wp_region_lit ?_
       try simp only [gelS]
       refine wpList_chunk 2 (by kernel_rfl) ?_
       simp only [takS, Nat.reduceAdd]
       repeat (first | go_big_quiet_skip | (go_big_quiet_want; first | (refine quiet_loadAny (t := 90) rfl _ _ _ rfl (fun w hw => run_load_B (ov_B p11 w hw) Tryz.isAgg90 (by kernel_rfl)) (by rfl) ?_; simp only [putS]; go_big_quiet_on) | (refine quiet_loadAny (t := 86) rfl _ _ _ rfl (fun w hw => run_load_B (ov_B p5 w hw) Tryz.isAgg86 (by kernel_rfl)) (by rfl) ?_; simp only [putS]; go_big_quiet_on) | (go_big_quiet_op; go_big_quiet_on)))
       refine wpQuiet_nil ?_
       refine wpList_callF (by first | rfl | simp [Region.wanted, yielded]) rfl (enters_of Tryz.func61 (by kernel_rfl) rfl) (by simp only [Act.eval, evlS]; rfl) ?_
       refine (P_from b_r2 b_r3 x y 0 _).mono ?_
       rintro e wn ⟨bs, bb, rfl, hbs, hbb, ps, pb, hbn⟩
       have hsz := B.size
       have hzn := hbn.size
       replace B := B.trans (hbn.mono B.size)
       (try replace p5 := p5.below hbn)
       (try replace p6 := p6.below hbn)
       (try replace p8 := p8.below hbn)
       (try replace HW := HW.below hbn)
       (try replace dm := dm.below hbn)
       (try replace op := op.below hbn)
       (try replace mk := mk.below hbn)
       (try replace p11 := p11.below hbn)
       (try replace l12 := l12.below hbn)
       refine ⟨_, rfl, ?_⟩
       simp only [putS]
       refine wpList_nil ?_
       go_wp2
       obtain ⟨A, hA⟩ : ∃ z, z = wn := ⟨_, rfl⟩
       subst hA
       have hsI := Nat.le_trans HWs.out B.size
       have kbs : bs ≠ b_l12 := by omega
       have kbb : bb ≠ b_l12 := by omega
       have kbI : wI.heap.size ≤ b_l12 := by omega
       have k12 := l12.lt
       have k6 := p6.lt
       have kd := dm.lt
       have HBND := Lib.hid (show Bnd (setG ls th) ⟨x, y, 0⟩ from ⟨⟨Int.le_refl _, by show (0 : Int) ≤ 3; omega⟩, hhs⟩)
       refine (wpIn_wide (n := 3)).1 ?_
       refine rangeFunc_own (F := Fence.wide) rfl (by omega) (gf := 98) (lb := #[.pointer (some ⟨bs, 0, none⟩), .pointer (some ⟨bb, 0, none⟩)]) rfl trivial (enters_of Tryz.func98 (by kernel_rfl) rfl) (from_stops b_r2 b_r3 ls th TK.out hn ⟨X0, Y0, X1, Y1⟩ (by simp only; omega) HBX.out ⟨x, y, 0⟩ HBND.out bs bb b_l12 _ (by omega) A wI ps pb HI.out HW hsI kbI kbs kbb) (fun h k => KpO.trans h k) (fun W l o o' hl ho => KpO.putObj o' hl ho) (fun A B h => KpO.below h) (Below.refl _ _) (fun _ => rfl)
        (fun pre W => ∃ (va : Option Addr) (cp : Nat), AtB 92 W b_l12 #[.slice va pre.length cp] ∧ OwnE edE (A.heap.size + 3) (.slice va pre.length cp) pre W ∧ DoneM b_dm (L ++ pre) W ∧ KX A b_dm b_l12 W)
        (fun pre W W' row hI hg hr => ?own) (fun pre W W' row hI hg hr => ?own1) ⟨none, 0, l12, OwnE.nil _ _, by rw [List.append_nil]; exact dm, KX.refl _ _ _⟩
        (fun x a' W => ∃ b13 : Nat, a'.defers = [] ∧ a'.tmps.size = 103 ∧ a'.tmps.getD 6 undef = .pointer (some ⟨b_p6, 0, none⟩) ∧ a'.tmps.getD 12 undef = .pointer (some ⟨b_l12, 0, none⟩) ∧ a'.tmps.getD 13 undef = .pointer (some ⟨b13, 0, none⟩) ∧ AtB 90 W b13 (edC x))
        (fun x a' W W' row hA hg hr => ?own2) ?assign ?body ?done
       case own =>
        obtain ⟨va, cp, h1, h2, h3, h4⟩ := hI
        have hr' : ∀ r, row = some r → ∃ o : Obj, W.heap[r]? = some o ∧ o.isCells = false := fun r e => (hr r e).2
        exact ⟨va, cp, h1.own hg hr', h2.ownR hg hr', h3.kept hg (fun e => by have := (hr _ e.symm).1; omega), h4.grown hg (fun r e => .inl (hr r e).1)⟩
       case own1 =>
        obtain ⟨va, cp, h1, h2, h3, h4⟩ := hI
        exact ⟨va, cp, h1.of_eq (hg.block _ h1.lt (fun e => by have := hr _ e.symm; omega)), h2.keptC hg (fun r e => by have := hr r e; omega), h3.kept hg (fun e => by have := hr _ e.symm; omega), h4.grown hg (fun r e => .inl (by have := hr r e; omega))⟩
       case own2 =>
        obtain ⟨b13, e1, e2, e3, e4, e5, h1⟩ := hA
        exact ⟨b13, e1, e2, e3, e4, e5, h1.own hg (fun r e => (hr r e).2)⟩
       case assign =>
        intro l pre x W K hIp hgt hK
        have B := Below.refl W.heap.size W
        refine zip1_wp ?_
        simp only [List.setIfInBounds_toArray, List.set_cons_succ, List.set_cons_zero]
        refine round_lit (by kernel_rfl) ?_
        try simp only [gelS]
        (refine wpList_allocBk (t := 90) rfl _ (run_alloc_St _ _ rfl) ?_; intro b_p13 wn hle hge ht hbn hzn; have hsz := B.size; replace B := B.trans (hbn.mono (by omega)); have hln := Nat.lt_of_lt_of_eq (Nat.lt_succ_self _) hzn.symm; clear hzn; have p13 := ht; clear ht; simp only [putS])
        (refine wpList_storeB (t := 90) rfl _ _ rfl _ rfl _ rfl p13 (by kernel_rfl) rfl (by simp [edC, Value.oneCell']) ?_; clear p13; intro wn ht hcn hzn; have hsz := B.size; replace hzn := Nat.le_of_eq hzn.symm; replace B := Chg.below B hcn (by omega) B.size; have p13 := ht; clear ht; simp only [putS])
        refine wpList_nil ?_
        refine Only.at ?_
        refine hK _ _ B ⟨_, rfl, rfl, rfl, rfl, rfl, p13⟩
       case body =>
        rintro l pre ⟨ex, ey, ed⟩ W ⟨tm, df⟩ ⟨va, cp, l12, od, dm, kx⟩ ⟨b13, e1, e2, e6, e12, e13, p13⟩ ⟨k, hk, hpre, hxe⟩ hgt
        obtain ⟨V, hV, hVi⟩ := arr_fn tm 103 e2
        dsimp only at e6 e12 e13
        rw [← hVi] at e6 e12 e13
        have eL : ((List.range 103).map V).toArray = #[V 0, V 1, V 2, V 3, V 4, V 5, V 6, V 7, V 8, V 9, V 10, V 11, V 12, V 13, V 14, V 15, V 16, V 17, V 18, V 19, V 20, V 21, V 22, V 23, V 24, V 25, V 26, V 27, V 28, V 29, V 30, V 31, V 32, V 33, V 34, V 35, V 36, V 37, V 38, V 39, V 40, V 41, V 42, V 43, V 44, V 45, V 46, V 47, V 48, V 49, V 50, V 51, V 52, V 53, V 54, V 55, V 56, V 57, V 58, V 59, V 60, V 61, V 62, V 63, V 64, V 65, V 66, V 67, V 68, V 69, V 70, V 71, V 72, V 73, V 74, V 75, V 76, V 77, V 78, V 79, V 80, V 81, V 82, V 83, V 84, V 85, V 86, V 87, V 88, V 89, V 90, V 91, V 92, V 93, V 94, V 95, V 96, V 97, V 98, V 99, V 100, V 101, V 102] := rfl
        rw [eL] at hV
        rw [e6, e12, e13] at hV
        subst hV
        have e1 : df = [] := e1
        subst e1
        clear e2 e6 e12 e13 hVi eL
        have hper := (perE_spec HBX.out HBND.out).2.2.1
        have hbn1 := (box_small (r := ⟨X0, Y0, X1, Y1⟩) HSM.out).1
        have hpl : pre.length = k := by rw [hpre, orbK_len]
        have hbe := HBX.out _ (orb_bnd HBND.out k)
        rw [← hxe] at hbe
        have hde := (orb_bnd HBND.out k).1
        rw [← hxe] at hde
        simp only at hbe hde
        have wfx : WfE ⟨ex, ey, ed⟩ := ⟨wf_mk (x := ex) (by omega) (by omega), wf_mk (x := ey) (by omega) (by omega), wf_mk (x := ed) (by omega) (by omega)⟩
        have l6 := kx.atB p6 (by omega) (by omega)
        have hne6 := dm.ne l6
        have hne12 := dm.ne l12
        have hne13 := dm.ne p13
        have hmo := Lib.hid dm
        have hkx := Lib.hid kx
        have l12W := Lib.hid l12
        have hLl : (L ++ pre).length < maxLen := by rw [List.length_append]; unfold maxLen; omega
        have hl1 : pre.length + 1 ≤ 100000000 := by omega
        clear hbe hde hpre hxe hk kx
        replace p13 : AtB 90 W b13 #[.int .i64 ex, .int .i64 ey, .int .i64 ed] := p13
        have B : Exc b_dm (A.heap.size + 3) W W := ⟨rfl, rfl, rfl, hgt, Nat.le_refl _, fun _ _ _ => rfl⟩
        gi_upto_region 18 with fail
        refine round_lit (by kernel_rfl) ?_
        try simp only [gelS]
        refine wpList_chunk 2 (by kernel_rfl) ?_
        simp only [takS, Nat.reduceAdd]
        repeat (first | go_big_quiet_skip | (go_big_quiet_want; first | (refine quiet_loadAny (t := 87) rfl _ _ _ rfl (fun w hw => run_load_mv ((ov_B l6 w hw).cellL 0 rfl)) (by first | rfl | omega) ?_; simp only [putS]; go_big_quiet_on) | (refine quiet_loadAny (t := 90) rfl _ _ _ rfl (fun w hw => run_load_B (ov_B p13 w hw) Tryz.isAgg90 (by kernel_rfl)) (by rfl) ?_; simp only [putS]; go_big_quiet_on) | (go_big_quiet_op; go_big_quiet_on)))
        refine wpQuiet_nil ?_
        (refine wpList_done rfl _ _ rfl rfl dm ⟨ex, ey, ed⟩ rfl wfx hLl ?_; clear dm; intro wn dm hgr; have hcn := chg_of_grown hgr; replace B := Exc.chg B hcn; replace l12 := l12.of_eq (hcn.block _ l12.lt hne12); replace l6 := l6.of_eq (hcn.block _ l6.lt hne6); replace p13 := p13.of_eq (hcn.block _ p13.lt hne13); replace od := od.keptC hgr (fun r e => by cases e; omega); simp only [putS])
        refine wpList_nil ?_
        refine Only.at ?_
        try dsimp only
        gi_upto_region 19 with fail
        refine round_lit (by kernel_rfl) ?_
        have ks := B.size
        try simp only [gelS]
        refine wpList_chunk 2 (by kernel_rfl) ?_
        simp only [takS, Nat.reduceAdd]
        repeat (first | go_big_quiet_skip | (go_big_quiet_want; first | (refine quiet_loadAny (t := 92) rfl _ _ _ rfl (fun w hw => run_load_ss ((ov_B l12 w hw).cellL 0 rfl)) (by first | rfl | omega) ?_; simp only [putS]; go_big_quiet_on) | (refine quiet_loadAny (t := 90) rfl _ _ _ rfl (fun w hw => run_load_B (ov_B p13 w hw) Tryz.isAgg90 (by kernel_rfl)) (by rfl) ?_; simp only [putS]; go_big_quiet_on) | (go_big_quiet_op; go_big_quiet_on)))
        refine wpQuiet_nil ?_
        (refine wpList_bs1E (E := edE) rfl _ rfl (⟨ex, ey, ed⟩) rfl (by omega) ?_; intro b_s1 wn hle hge ht hbn hzn; replace od := od.below (hbn.mono hle); have hsz := B.size; replace B := B.trans (hbn.mono (by omega)); have hln := Nat.lt_of_lt_of_eq (Nat.lt_succ_self _) hzn.symm; clear hzn; (try have hlt := l12.lt); (try replace l12 := l12.below (hbn.mono hle)); (try have hlt := p13.lt); (try have hlt := od.lt); (try replace od := od.below (hbn.mono hle)); (try have hlt := dm.lt); (try replace dm := dm.below (hbn.mono hle)); have s1 := ht; clear ht; simp only [putS])
        (at_builtin; refine wpList_appendE rfl _ _ rfl _ _ rfl rfl od (RSE.one s1) (by simp only [List.length_cons, List.length_nil]; omega) (by omega) ?_; intro v_od wn ht hbn; have hsz := B.size; have hbz := hbn.size; replace B := B.trans (hbn.mono (by omega)); clear od; (try replace l12 := l12.of_eq (hbn.block _ (by omega))); (try replace dm := dm.of_eq (hbn.block _ (by omega))); have od := ht; clear ht; obtain ⟨a_od, c_od, hv, hco⟩ := od.len; (try simp only [List.length_append, List.length_cons, List.length_nil, Nat.zero_add] at hv hco); subst hv; simp only [putS])
        obtain ⟨W5, hW5⟩ : ∃ z, z = wn := ⟨_, rfl⟩
        subst hW5
        refine wpList_storeSs rfl _ _ rfl _ rfl _ _ _ rfl l12 ?_
        intro W6 l12' hc6 _
        simp only [putS]
        refine wpList_nil ?_
        refine Only.at ?_
        try dsimp only
        gi_wp2
        have hgr := B.grow
        have dm6 := dm.chg l12 trivial hc6
        have od6 := od.chg hc6 (by omega)
        refine ⟨fun k o h1 h2 ho => ?_, ⟨Nat.le_trans B.grow hc6.size, fun k o hk ho hcl => ?_⟩, ⟨a_od, c_od, by rw [List.length_append]; exact l12', by rw [List.length_append]; exact od6, by rw [← List.append_assoc]; exact dm6, (hkx.out.exc B (by omega)).chgL hc6⟩⟩
        ·have hlt := (Array.getElem?_eq_some_iff.1 ho).1
         exact (hc6.block k (by omega) (by omega)).trans ((B.block k (by omega) (by omega)).trans ho)
        ·have hlt := (Array.getElem?_eq_some_iff.1 ho).1
         have hkm : k ≠ b_dm := fun e => by
          obtain ⟨es, c, h5⟩ := hmo.out.obj
          rw [e, h5] at ho
          cases ho
          cases hcl
         exact (hc6.block k (by omega) (by omega)).trans ((B.block k (by omega) hkm).trans ho)
       case done =>
        rintro D xs W2 hD rfl ⟨va, cp, l12b, od, dm2, kx⟩ hDD
        have kd2 : DefAt W2 D := hDD
        obtain ⟨ll, hll⟩ : ∃ z, folE (setG ls th) ⟨X0, Y0, X1, Y1⟩ ⟨x, y, 0⟩ = z := ⟨_, rfl⟩
        rw [hll] at l12b od dm2 hst2
        have hcnt := (box_small (r := ⟨X0, Y0, X1, Y1⟩) HSM.out).1
        have hper := (perE_spec HBX.out HBND.out).2.2.1
        have hlen : ll.length ≤ 161604 := by rw [← hll]; unfold folE; rw [orbK_len]; omega
        have hF2 := Lib.hid (show OutF w wI b_r2 b_r3 b_p5 b_p6 b_dm b_p8 ⟨X0, Y0, X1, Y1⟩ (L ++ ll, PS) vo ({ target := .collected D, args := #[] } :: ds) W2 from
         ⟨kx.atB p5 (by omega) (by omega), kx.atB p6 (by omega) (by omega), kx.atB p8 (by omega) (by omega), kx.hold HW (by omega) (by omega), dm2, kx.polys op dm.obj l12 (by decide), ⟨⟨D, rfl, by omega, kd2, fun D' hm => by have := mk.lt D' hm; omega⟩, kx.marks mk (fun D hD => dm.neD hD) (fun D hD => fun e => hD.ne l12 e.symm)⟩, kx.below (BW.out.trans (B.mono hws)) (by omega) (by omega) (by omega)⟩)
        have hpos : 0 < ll.length := by rw [← hll]; unfold folE; rw [orbK_len]; have := (perE_spec HBX.out HBND.out).2.1; omega
        obtain ⟨g12, o12, rfl, ce⟩ := od.rs.at hpos
        dsimp only
        clear B BW p5 p6 p8 p11 HW dm op mk ps pb l12 kd2 dm2 kx od HBND hper hll
        have B := Below.refl W2.heap.size W2
        go_upto_region 20 with fail
        refine wp_region_lit ?_
        try simp only [gelS]
        refine wpList_chunk 1 (by kernel_rfl) ?_
        simp only [takS, Nat.reduceAdd]
        repeat (first | go_big_quiet_skip | (go_big_quiet_want; go_big_quiet_op; go_big_quiet_on))
        refine wpQuiet_nil ?_
        refine wpList_nil ?_
        go_upto_region 21 with fail
        refine wp_region_lit ?_
        try simp only [gelS]
        refine wpList_chunk 1 (by kernel_rfl) ?_
        simp only [takS, Nat.reduceAdd]
        repeat (first | go_big_quiet_skip | (go_big_quiet_want; first | (refine quiet_loadAny (t := 92) rfl _ _ _ rfl (fun w hw => run_load_ss ((ov_B l12b w hw).cellL 0 rfl)) (by first | rfl | omega) ?_; simp only [putS]; go_big_quiet_on) | (go_big_quiet_op; go_big_quiet_on)))
        refine wpQuiet_nil ?_
        refine wpList_lenS (by first | rfl | simp [Region.wanted, yielded]) rfl Tryz.underlying92 rfl ?_
        simp only [putS]
        refine wpList_chunk 1 (by kernel_rfl) ?_
        simp only [takS, Nat.reduceAdd]
        repeat (first | go_big_quiet_skip | (go_big_quiet_want; go_big_quiet_op; go_big_quiet_on))
        refine wpQuiet_nil ?_
        refine wpList_nil ?_
        go_wp2
        have HLB := Lib.hid l12b
        have HCE := Lib.hid ce
        have o14 := OwnE.nil (E := ptE) W2.heap.size W2
        go_loopw [14, 15, 16, 69] (fun v14 _ _ iv wr => ∃ k, k ≤ ll.length ∧ iv = .int .i64 (k : Int) ∧ Below W2.heap.size W2 wr ∧ ∃ a c, v14 = .slice a (cornK ll k).length c ∧ OwnE ptE W2.heap.size (.slice a (cornK ll k).length c) (cornK ll k) wr) (fun _ _ _ iv _ => (ll.length - intOf iv).toNat)
        case atStart => exact ⟨0, by omega, rfl, B, none, 0, rfl, o14⟩
        case round =>
         clear B l12b ce o14
         obtain ⟨k, hk, rfl, B, a14, c14, rfl, o14⟩ := hrel
         have l12b := HLB.out.of_eq (B.block _ HLB.out.lt)
         have ce := HCE.out.of_eq (B.block _ HCE.out.lt)
         have hcl := cornK_len ll k
         by_cases hkl : k < ll.length
         ·have q3 : decide ((k : Int) < (ll.length : Int)) = true := decide_eq_true (by omega)
          have q4 : decide (k < ll.length) = true := decide_eq_true hkl
          obtain ⟨pk, hpk⟩ : ∃ p, (k + ll.length - 1) % ll.length = p := ⟨_, rfl⟩
          have hpl : pk < ll.length := by rw [← hpk]; exact Nat.mod_lt _ hpos
          have q5 : decide (pk < ll.length) = true := decide_eq_true hpl
          have q6 : decide ((pk : Int) < (ll.length : Int)) = true := decide_eq_true (by omega)
          have ht1 : Int.tmod ((k : Int) + (ll.length : Int) - 1) (ll.length : Int) = (pk : Int) := by
           rw [Int.tmod_eq_emod_of_nonneg (by omega), show (k : Int) + (ll.length : Int) - 1 = ((k + ll.length - 1 : Nat) : Int) by omega, ← Int.natCast_emod, hpk]
          obtain ⟨⟨ex, ey, ed⟩, he⟩ : ∃ e, edG ll k = e := ⟨_, rfl⟩
          obtain ⟨⟨px, py, pd⟩, hp⟩ : ∃ e, edG ll pk = e := ⟨_, rfl⟩
          have hek : ll[k]? = some ⟨ex, ey, ed⟩ := by
           rw [← he]; unfold edG; rw [List.getD_eq_getElem?_getD, List.getElem?_eq_getElem hkl]; rfl
          have hep : ll[pk]? = some ⟨px, py, pd⟩ := by
           rw [← hp]; unfold edG; rw [List.getD_eq_getElem?_getD, List.getElem?_eq_getElem hpl]; rfl
          have HC := Lib.hid (show cornB ll k = decide (pd ≠ ed) ∧ cornK ll (k + 1) = cornK ll k ++ (if cornB ll k = true then [(ex, ey)] else []) from ⟨by unfold cornB; rw [hpk, hp, he], by show _ ++ (if _ then [((edG ll k).x, (edG ll k).y)] else []) = _; rw [he]⟩)
          clear he hp hpk
          have hl0 : ¬ ((ll.length : Int) = 0) := by omega
          have hl0' : ((ll.length : Int) == 0) = false := beq_eq_false_iff_ne.2 hl0
          go_upto_region 22 with fail
          refine wp_region_lit ?_
          try simp only [gelS]
          refine wpList_chunk 1 (by kernel_rfl) ?_
          simp only [takS, Nat.reduceAdd]
          repeat (first | go_big_quiet_skip | (go_big_quiet_want; go_big_quiet_op; go_big_quiet_on))
          refine wpQuiet_nil ?_
          refine wpList_nil ?_
          go_upto_region 23 with fail
          refine wp_region_lit ?_
          try simp only [gelS]
          refine wpList_chunk 3 (by kernel_rfl) ?_
          simp only [takS, Nat.reduceAdd]
          repeat (first | go_big_quiet_skip | (go_big_quiet_want; first | (refine quiet_loadAny (t := 90) rfl _ _ _ rfl (fun w hw => rce_edS (ov_rce ce w hw) hek) (by first | rfl | omega) ?_; simp only [putS]; go_big_quiet_on) | (go_big_quiet_op; go_big_quiet_on)))
          refine wpQuiet_nil ?_
          (refine wpList_allocBk (t := 90) rfl _ (run_alloc_St _ _ rfl) ?_; intro b_p16 wn hle hge ht hbn hzn; have hsz := B.size; replace B := B.trans (hbn.mono (by omega)); have hln := Nat.lt_of_lt_of_eq (Nat.lt_succ_self _) hzn.symm; clear hzn; (try have hlt := l12b.lt); (try replace l12b := l12b.below (hbn.mono hle)); (try have hlt := ce.lt); (try replace ce := ce.below (hbn.mono hle)); (try have hlt := o14.lt); (try replace o14 := o14.below (hbn.mono hle)); have p16 := ht; clear ht; simp only [putS])
          refine wpList_chunk 1 (by kernel_rfl) ?_
          simp only [takS, Nat.reduceAdd]
          repeat (first | go_big_quiet_skip | (go_big_quiet_want; go_big_quiet_op; go_big_quiet_on))
          refine wpQuiet_nil ?_
          (refine wpList_storeB (t := 90) rfl _ _ rfl _ rfl _ rfl p16 (by kernel_rfl) rfl (by simp [edC, Value.oneCell']) ?_; have p16o := p16; clear p16; intro wn ht hcn hzn; (try replace o14 := o14.chgT p16o (by decide) hcn); have hsz := B.size; replace hzn := Nat.le_of_eq hzn.symm; replace B := Chg.below B hcn (by omega) B.size; (try replace l12b := l12b.of_eq (hcn.block _ l12b.lt (by omega))); (try replace ce := ce.of_eq (hcn.block _ ce.lt (by omega))); (try replace o14 := o14.of_eq (hcn.block _ o14.lt (by omega))); have p16 := ht; clear ht; simp only [putS])
          refine wpList_nil ?_
          replace p16 : AtB 90 _ b_p16 #[.int .i64 ex, .int .i64 ey, .int .i64 ed] := p16
          have k16 := p16.lt
          go_upto_region 24 with fail
          have hcw : Below W2.heap.size W2 _ := B
          by_cases hne : pd = ed
          ·have q7 : (pd != ed) = false := by rw [hne]; simp
           have q8 : (pd == ed) = true := by rw [hne]; simp
           have HC2 := Lib.hid (show cornK ll (k + 1) = cornK ll k from by rw [HC.out.2, HC.out.1, decide_eq_false (fun h => h hne)]; simp)
           try simp only [gelS]
           try have lx_l12b := l12b.lt
           try have lx_ce := ce.lt
           try have lx_o14 := o14.lt
           try have lx_p16 := p16.lt
           refine wp_region_RL 15 [(3, detS ?v1_3), (7, detS ?v1_7)] (by kernel_rfl) (by kernel_rfl) (by kernel_rfl) ?_
           rotate_left 2
           simp only [takS, Nat.reduceAdd]
           refine wpRL_chunk 3 (by kernel_rfl) ?_
           simp only [takS, Nat.reduceAdd]
           repeat (first | go_big_quiet_skip | (go_big_quiet_want; first | (refine quiet_loadAny (t := 92) rfl _ _ _ rfl (fun w hw => run_load_ss ((ov_B l12b w hw).cellL 0 rfl)) (by first | rfl | omega) ?_; simp only [putS]; go_big_quiet_on) | (go_big_quiet_op; go_big_quiet_on)))
           refine wpQuiet_nil ?_
           refine wpRL_callB (by rfl) (by first | rfl | simp [Region.wanted, yielded]) ?_ ?_
           ·intro wn hbn hE Kx hKx
            have hsz := B.size
            have hzn := hbn.size
            replace B := B.trans (hbn.mono B.size)
            (try replace l12b := l12b.below hbn)
            (try replace ce := ce.below hbn)
            (try replace o14 := o14.below hbn)
            (try replace p16 := p16.below hbn)
            refine wp_lenS rfl Tryz.underlying92 rfl ?_
            exact hKx () _ trivial (Below.refl _ _)
           rintro ⟨⟩
           dsimp only [detS]
           simp only [putS]
           refine wpRL_chunk 3 (by kernel_rfl) ?_
           simp only [takS, Nat.reduceAdd]
           repeat (first | go_big_quiet_skip | (go_big_quiet_want; first | (refine quiet_loadAny (t := 92) rfl _ _ _ rfl (fun w hw => run_load_ss ((ov_B l12b w hw).cellL 0 rfl)) (by first | rfl | omega) ?_; simp only [putS]; go_big_quiet_on) | (go_big_quiet_op; go_big_quiet_on)))
           refine wpQuiet_nil ?_
           refine wpRL_callB (by rfl) (by first | rfl | simp [Region.wanted, yielded]) ?_ ?_
           ·intro wn hbn hE Kx hKx
            have hsz := B.size
            have hzn := hbn.size
            replace B := B.trans (hbn.mono B.size)
            (try replace l12b := l12b.below hbn)
            (try replace ce := ce.below hbn)
            (try replace o14 := o14.below hbn)
            (try replace p16 := p16.below hbn)
            refine wp_lenS rfl Tryz.underlying92 rfl ?_
            exact hKx () _ trivial (Below.refl _ _)
           rintro ⟨⟩
           dsimp only [detS]
           simp only [putS]
           refine wpRL_chunk 7 (by kernel_rfl) ?_
           simp only [takS, Nat.reduceAdd]
           repeat (first | go_big_quiet_skip | (go_big_quiet_want; first | (refine quiet_loadAny (t := 3) rfl _ _ _ rfl (fun w hw => rce_eddS (ov_rce ce w hw) hep) (by first | rfl | omega) ?_; simp only [putS]; go_big_quiet_on) | (refine quiet_loadAny (t := 3) rfl _ _ _ rfl (fun w hw => run_load_int ((ov_B p16 w hw).cellL 2 rfl)) (by first | rfl | omega) ?_; simp only [putS]; go_big_quiet_on) | (go_big_quiet_op; go_big_quiet_on)))
           refine wpQuiet_nil ?_
           refine wpRL_nil ?_
           intro wn hbn hE
           have hsz := B.size
           have hzn := hbn.size
           replace B := B.trans (hbn.mono B.size)
           (try replace l12b := l12b.below hbn)
           (try replace ce := ce.below hbn)
           (try replace o14 := o14.below hbn)
           (try replace p16 := p16.below hbn)
           clear hE
           try simp only [List.drop_succ_cons, List.drop_zero]
           refine NoPan.normal ?_
           go_upto_region 26 with fail
           refine wp_region_lit ?_
           try simp only [gelS]
           refine wpList_chunk 2 (by kernel_rfl) ?_
           simp only [takS, Nat.reduceAdd]
           repeat (first | go_big_quiet_skip | (go_big_quiet_want; go_big_quiet_op; go_big_quiet_on))
           refine wpQuiet_nil ?_
           refine wpList_nil ?_
           go_wp2
           go_roundw
           case rel => exact ⟨k + 1, by omega, by go_num, B, a14, c14, by rw [HC2.out], by rw [HC2.out]; exact o14⟩
           case measure => simp [intOf]; omega
          ·have q7 : (pd != ed) = true := by simp [hne]
           have q8 : (pd == ed) = false := by simp [hne]
           have HC2 := Lib.hid (show cornK ll (k + 1) = cornK ll k ++ [(ex, ey)] from by rw [HC.out.2, HC.out.1, decide_eq_true hne]; simp)
           try simp only [gelS]
           try have lx_l12b := l12b.lt
           try have lx_ce := ce.lt
           try have lx_o14 := o14.lt
           try have lx_p16 := p16.lt
           refine wp_region_RL 15 [(3, detS ?v2_3), (7, detS ?v2_7)] (by kernel_rfl) (by kernel_rfl) (by kernel_rfl) ?_
           rotate_left 2
           simp only [takS, Nat.reduceAdd]
           refine wpRL_chunk 3 (by kernel_rfl) ?_
           simp only [takS, Nat.reduceAdd]
           repeat (first | go_big_quiet_skip | (go_big_quiet_want; first | (refine quiet_loadAny (t := 92) rfl _ _ _ rfl (fun w hw => run_load_ss ((ov_B l12b w hw).cellL 0 rfl)) (by first | rfl | omega) ?_; simp only [putS]; go_big_quiet_on) | (go_big_quiet_op; go_big_quiet_on)))
           refine wpQuiet_nil ?_
           refine wpRL_callB (by rfl) (by first | rfl | simp [Region.wanted, yielded]) ?_ ?_
           ·intro wn hbn hE Kx hKx
            have hsz := B.size
            have hzn := hbn.size
            replace B := B.trans (hbn.mono B.size)
            (try replace l12b := l12b.below hbn)
            (try replace ce := ce.below hbn)
            (try replace o14 := o14.below hbn)
            (try replace p16 := p16.below hbn)
            refine wp_lenS rfl Tryz.underlying92 rfl ?_
            exact hKx () _ trivial (Below.refl _ _)
           rintro ⟨⟩
           dsimp only [detS]
           simp only [putS]
           refine wpRL_chunk 3 (by kernel_rfl) ?_
           simp only [takS, Nat.reduceAdd]
           repeat (first | go_big_quiet_skip | (go_big_quiet_want; first | (refine quiet_loadAny (t := 92) rfl _ _ _ rfl (fun w hw => run_load_ss ((ov_B l12b w hw).cellL 0 rfl)) (by first | rfl | omega) ?_; simp only [putS]; go_big_quiet_on) | (go_big_quiet_op; go_big_quiet_on)))
           refine wpQuiet_nil ?_
           refine wpRL_callB (by rfl) (by first | rfl | simp [Region.wanted, yielded]) ?_ ?_
           ·intro wn hbn hE Kx hKx
            have hsz := B.size
            have hzn := hbn.size
            replace B := B.trans (hbn.mono B.size)
            (try replace ce := ce.below hbn)
            (try replace o14 := o14.below hbn)
            (try replace p16 := p16.below hbn)
            refine wp_lenS rfl Tryz.underlying92 rfl ?_
            exact hKx () _ trivial (Below.refl _ _)
           rintro ⟨⟩
           dsimp only [detS]
           simp only [putS]
           refine wpRL_chunk 7 (by kernel_rfl) ?_
           simp only [takS, Nat.reduceAdd]
           repeat (first | go_big_quiet_skip | (go_big_quiet_want; first | (refine quiet_loadAny (t := 3) rfl _ _ _ rfl (fun w hw => rce_eddS (ov_rce ce w hw) hep) (by first | rfl | omega) ?_; simp only [putS]; go_big_quiet_on) | (refine quiet_loadAny (t := 3) rfl _ _ _ rfl (fun w hw => run_load_int ((ov_B p16 w hw).cellL 2 rfl)) (by first | rfl | omega) ?_; simp only [putS]; go_big_quiet_on) | (go_big_quiet_op; go_big_quiet_on)))
           refine wpQuiet_nil ?_
           refine wpRL_nil ?_
           intro wn hbn hE
           have hsz := B.size
           have hzn := hbn.size
           replace B := B.trans (hbn.mono B.size)
           (try replace o14 := o14.below hbn)
           (try replace p16 := p16.below hbn)
           clear hE
           try simp only [List.drop_succ_cons, List.drop_zero]
           refine NoPan.normal ?_
           go_upto_region 25 with fail
           have ksz := B.size
           refine wp_region_lit ?_
           try simp only [gelS]
           refine wpList_chunk 6 (by kernel_rfl) ?_
           simp only [takS, Nat.reduceAdd]
           repeat (first | go_big_quiet_skip | (go_big_quiet_want; first | (refine quiet_loadAny (t := 3) rfl _ _ _ rfl (fun w hw => run_load_int ((ov_B p16 w hw).cellL 0 rfl)) (by first | rfl | omega) ?_; simp only [putS]; go_big_quiet_on) | (refine quiet_loadAny (t := 3) rfl _ _ _ rfl (fun w hw => run_load_int ((ov_B p16 w hw).cellL 1 rfl)) (by first | rfl | omega) ?_; simp only [putS]; go_big_quiet_on) | (go_big_quiet_op; go_big_quiet_on)))
           refine wpQuiet_nil ?_
           (refine wpList_bs1E (E := ptE) rfl _ rfl ((ex, ey)) rfl (by omega) ?_; intro b_s1 wn hle hge ht hbn hzn; replace o14 := o14.below (hbn.mono hle); have hsz := B.size; replace B := B.trans (hbn.mono (by omega)); have hln := Nat.lt_of_lt_of_eq (Nat.lt_succ_self _) hzn.symm; clear hzn; (try have hlt := l12b.lt); (try have hlt := ce.lt); (try have hlt := p16.lt); have s1 := ht; clear ht; simp only [putS])
           (at_builtin; refine wpList_appendE rfl _ _ rfl _ _ rfl rfl o14 (RSE.one s1) (by simp only [List.length_cons, List.length_nil]; omega) (by omega) ?_; intro v_o14 wn ht hbn; have hsz := B.size; have hbz := hbn.size; replace B := B.trans (hbn.mono (by omega)); clear o14; have o14 := ht; clear ht; obtain ⟨a_o14, c_o14, hv, hco⟩ := o14.len; (try simp only [List.length_append, List.length_cons, List.length_nil, Nat.zero_add] at hv hco); subst hv; simp only [putS])
           refine wpList_chunk 1 (by kernel_rfl) ?_
           simp only [takS, Nat.reduceAdd]
           repeat (first | go_big_quiet_skip | (go_big_quiet_want; go_big_quiet_op; go_big_quiet_on))
           refine wpQuiet_nil ?_
           refine wpList_nil ?_
           go_upto_region 26 with fail
           refine wp_region_lit ?_
           try simp only [gelS]
           refine wpList_chunk 2 (by kernel_rfl) ?_
           simp only [takS, Nat.reduceAdd]
           repeat (first | go_big_quiet_skip | (go_big_quiet_want; go_big_quiet_op; go_big_quiet_on))
           refine wpQuiet_nil ?_
           refine wpList_nil ?_
           go_wp2
           go_roundw
           case rel => exact ⟨k + 1, by omega, by go_num, B, a_o14, c_o14, by rw [HC2.out, List.length_append]; rfl, by rw [HC2.out, List.length_append]; exact o14⟩
           case measure => simp [intOf]; omega
         ·obtain rfl : k = ll.length := by omega
          have q3 : decide (((ll.length : Nat) : Int) < (ll.length : Int)) = false := decide_eq_false (by omega)
          have q4 : decide (ll.length < ll.length) = false := decide_eq_false (by omega)
          go_upto_region 22 with fail
          refine wp_region_lit ?_
          try simp only [gelS]
          refine wpList_chunk 1 (by kernel_rfl) ?_
          simp only [takS, Nat.reduceAdd]
          repeat (first | go_big_quiet_skip | (go_big_quiet_want; go_big_quiet_op; go_big_quiet_on))
          refine wpQuiet_nil ?_
          refine wpList_nil ?_
          go_upto_region 27 with fail
          have hF3 := hF2.out.below B
          have op3 : OwnP b_p8 vo PS _ := hF3.2.2.2.2.2.1
          have hcl := cornK_len ll ll.length
          have hb8 := hF2.out.2.2.1.lt
          have hsB := B.size
          have o14' := o14.mono (Nat.le_of_lt hb8)
          refine wp_region_lit ?_
          try simp only [gelS]
          refine wpList_chunk 2 (by kernel_rfl) ?_
          simp only [takS, Nat.reduceAdd]
          repeat (first | go_big_quiet_skip | (go_big_quiet_want; go_big_quiet_op; go_big_quiet_on))
          refine wpQuiet_nil ?_
          (refine wpList_bs1S rfl _ rfl ⟨a14, (cornK ll ll.length).length, c14⟩ rfl ?_; intro b_s39 wn hle hge ht hbn hzn; have hsz := B.size; replace B := B.trans (hbn.mono (by omega)); have hln := Nat.lt_of_lt_of_eq (Nat.lt_succ_self _) hzn.symm; clear hzn; (try first | (have hlt := o14'.lt; replace o14' := o14'.of_eq (hbn.block _ (by omega))) | replace o14' := o14'.below (hbn.mono hle)); (try have hlt := hF3.lt); (try replace hF3 := hF3.below (hbn.mono hle)); (try have hlt := op3.lt); (try replace op3 := op3.below (hbn.mono hle)); have s39 := ht; clear ht; simp only [putS])
          (at_builtin; refine wpList_appendP rfl _ _ rfl _ rfl ⟨a14, (cornK ll ll.length).length, c14⟩ (cornK ll ll.length) rfl op3 s39 o14' (by omega) (by have := hbn.size; omega) ?_; intro v7 wn hop hgr; simp only [putS])
          refine wpList_chunk 1 (by kernel_rfl) ?_
          simp only [takS, Nat.reduceAdd]
          repeat (first | go_big_quiet_skip | (go_big_quiet_want; go_big_quiet_op; go_big_quiet_on))
          refine wpQuiet_nil ?_
          refine wpList_nil ?_
          go_upto_region 12 with fail
          refine wp_region_lit ?_
          try simp only [gelS]
          refine wpList_chunk 3 (by kernel_rfl) ?_
          simp only [takS, Nat.reduceAdd]
          repeat (first | go_big_quiet_skip | (go_big_quiet_want; go_big_quiet_op; go_big_quiet_on))
          refine wpQuiet_nil ?_
          refine wpList_nil ?_
          go_wp2
          refine ⟨⟨kx + 1, v7, by omega, ⟨rfl, rfl, rfl, rfl, rfl, rfl, rfl⟩, rfl, by show Value.int _ _ = _; congr 1; omega, ?_⟩, ?_⟩
          ·rw [HST.out, hst2.out]
           exact OutF.turn hF3 hgr (by omega) hop
          ·show (X1 - intOf (.int .i64 _)).toNat < (X1 - intOf (.int .i64 _)).toNat
           simp only [intOf]; omega
    ·obtain rfl : kx = Wd := by omega
     have q2 : decide (X0 + (kx : Int) < X1) = false := decide_eq_false (by omega)
     have p8 : AtB 30 W b_p8 #[.int .i64 X0, .int .i64 Y0, .int .i64 X1, .int .i64 Y1] := hF.2.2.1
     go_upto_region 11 with fail
     refine wp_region_lit ?_
     try simp only [gelS]
     refine wpList_chunk 4 (by kernel_rfl) ?_
     simp only [takS, Nat.reduceAdd]
     repeat (first | go_big_quiet_skip | (go_big_quiet_want; first | (refine quiet_loadAny (t := 3) rfl _ _ _ rfl (fun w hw => run_load_int ((ov_B p8 w hw).cellL 2 rfl)) (by first | rfl | omega) ?_; simp only [putS]; go_big_quiet_on) | (go_big_quiet_op; go_big_quiet_on)))
     refine wpQuiet_nil ?_
     refine wpList_nil ?_
     go_upto_region 9 with fail
     refine wp_region_lit ?_
     try simp only [gelS]
     refine wpList_chunk 3 (by kernel_rfl) ?_
     simp only [takS, Nat.reduceAdd]
     repeat (first | go_big_quiet_skip | (go_big_quiet_want; go_big_quiet_op; go_big_quiet_on))
     refine wpQuiet_nil ?_
     refine wpList_nil ?_
     go_wp2
     refine ⟨⟨ky + 1, vo, by omega, ⟨rfl, rfl, rfl, rfl, rfl, rfl, rfl⟩, by show Value.int _ _ = _; congr 1; omega, ?_⟩, ?_⟩
     ·rw [← hWd] at hF
      exact hF
     ·show (Y1 - intOf (.int .i64 _)).toNat < (Y1 - intOf (.int .i64 _)).toNat
      simp only [intOf]; omega
  ·obtain rfl : ky = H := by omega
   have q2 : decide (Y0 + (ky : Int) < Y1) = false := decide_eq_false (by omega)
   have p8 : AtB 30 W b_p8 #[.int .i64 X0, .int .i64 Y0, .int .i64 X1, .int .i64 Y1] := hF.2.2.1
   go_upto_region 8 with fail
   refine wp_region_lit ?_
   try simp only [gelS]
   refine wpList_chunk 4 (by kernel_rfl) ?_
   simp only [takS, Nat.reduceAdd]
   repeat (first | go_big_quiet_skip | (go_big_quiet_want; first | (refine quiet_loadAny (t := 3) rfl _ _ _ rfl (fun w hw => run_load_int ((ov_B p8 w hw).cellL 3 rfl)) (by first | rfl | omega) ?_; simp only [putS]; go_big_quiet_on) | (go_big_quiet_op; go_big_quiet_on)))
   refine wpQuiet_nil ?_
   refine wpList_nil ?_
   go_upto_region 28 with fail
   refine wp_region_lit ?_
   try simp only [gelS]
   refine wpList_chunk 2 (by kernel_rfl) ?_
   simp only [takS, Nat.reduceAdd]
   repeat (first | go_big_quiet_skip | (go_big_quiet_want; go_big_quiet_op; go_big_quiet_on))
   refine wpQuiet_nil ?_
   refine wpList_nil ?_
   go_wp2
   rw [← hH] at hF
   obtain ⟨_, _, _, _, _, op, mk, B⟩ := hF
   have hwb : w.heap.size ≤ b_p8 := by omega
   refine Marks.leaves (n := b_p8) (I := fun W => OwnP b_p8 vo (outlG (setG ls th) ⟨X0, Y0, X1, Y1⟩) W ∧ Below w.heap.size w W) (fun W D hD hdf hi => ⟨hi.1.keptO fun g cur t _ hg => (World.putObj_heap_other (fun e => ?_)).trans hg, Below.grown' hi.2 (Nat.le_refl _) (grownBy_putObj' _ _ _) (fun r e => ?_)⟩) (fun W hi => ⟨_, results_tmp rfl _ _ _, ⟨vo, rfl, by rw [HRR.out]; exact hi.1.rs, hi.2⟩⟩) mk ⟨op, B⟩
   ·rw [e, show W.heap[D]? = _ from hdf] at hg
    cases hg
   ·cases e
    omega
end Go.Proofs.YtamgpfblhlfhaaaGreat
/- Slice literals of several elements; the sanity check of chapter 15's laws. -/
namespace Go.Proofs.YtamgpfblhlfhaaaGreat
open Go.RowKit Go.Shelf Pl
set_option linter.unusedVariables false
set_option linter.unusedSimpArgs false
set_option maxRecDepth 20000
section
variable {α : Type} {k : Nat} {T ST : TypeId} {E : Elt α k T ST}
theorem fill_row (ls : List α) (cs : Array Value) (hs : cs.size = ls.length * k) : Instr.fill (fun i => some (i * k, k)) cs (((ls.map fun x => Value.agg (E.enc x)).zipIdx 0).map fun y => (y.2, y.1)) = some (rowE E ls).toArray := by
 obtain ⟨r, hr1, hr2, hr3⟩ := Great.fill_dense E.pos (ls.map fun x => Value.agg (E.enc x)) 0 cs (fun v hv => by obtain ⟨x, _, rfl⟩ := List.mem_map.1 hv; simp only [Value.cells, E.size]) (by rw [List.length_map, hs, Nat.zero_add]; exact Nat.le_refl _)
 rw [hr1]
 congr 1
 apply Array.ext_getElem?
 intro j
 have hr : (rowE E ls).toArray[j]? = (rowE E ls)[j]? := by rw [List.getElem?_toArray]
 rw [hr3 j, List.length_map, hr, Nat.zero_add]
 by_cases h : j < ls.length * k
 ·obtain ⟨h1, h2, h3⟩ := div_mod_lt E.pos h
  have hx : ls[j / k]? = some ls[j / k] := List.getElem?_eq_getElem h1
  have h4 := rowE_at E ls (j / k) _ hx (j % k) h2
  rw [← h3] at h4
  rw [if_pos ⟨by rw [Nat.zero_mul]; omega, h⟩, h4, Nat.sub_zero, List.getElem?_map, hx]
  simp only [Option.map_some, Option.bind_some, Value.cells]
 ·rw [if_neg (fun h' => h h'.2), Array.getElem?_eq_none (by rw [hs]; exact Nat.le_of_not_lt h), List.getElem?_eq_none (by rw [rowE_length]; exact Nat.le_of_not_lt h)]
variable {ops : Array Oper} {rest : List Oper} {o : Oper} {a : Act} {w : World} {Q : Exit → Act → World → Prop}
theorem owp_bsnE {K : Act → World → Prop} (n : Nat) (ps : Array (Nat × Operand)) (ho : o.op = .buildSlice ST n ps) (ls : List α) (hl : ls.length = n) (hp : (ps.map fun (i, x) => (i, a.eval x)).toList = ((ls.map fun x => Value.agg (E.enc x)).zipIdx 0).map fun y => (y.2, y.1)) (hn : 0 < n) (hk : n * k ≤ 1000)
  (h : ∀ b w', w.heap.size ≤ b → b ≤ w.heap.size → RowAt E w' b ls → Below b w w' → w'.heap.size = b + 1 → K (a.put o.dst (.slice (some ⟨b, 0, none⟩) n n)) w') : o.wp Tryz.prog a w K Q := by
 obtain ⟨i, z, hi, hz, hsz, hby, hzc⟩ := E.facts
 have hp0 := Nat.mul_pos hn E.pos
 refine wp_buildSlice ST T n ps ho (rowE E ls).toArray i z E.und hi hz (by rw [hsz]; omega) (by rw [hsz]; omega) ?_ (h _ _ (Nat.le_refl _) (Nat.le_refl _) (by unfold RowAt AtB; rw [heap_get_alloc, if_pos rfl]) ((Below.refl _ _).alloc (Nat.le_refl _) _) (World.size_alloc _ _))
 rw [hsz, hp]
 exact fill_row ls _ (by rw [hl]; simp)
theorem wpList_bsnE (hw : Region.wanted o (yielded ops a.tmps) = true) (n : Nat) (ps : Array (Nat × Operand)) (ho : o.op = .buildSlice ST n ps) (ls : List α) (hl : ls.length = n) (hp : (ps.map fun (i, x) => (i, a.eval x)).toList = ((ls.map fun x => Value.agg (E.enc x)).zipIdx 0).map fun y => (y.2, y.1)) (hn : 0 < n) (hk : n * k ≤ 1000)
  (h : ∀ b w', w.heap.size ≤ b → b ≤ w.heap.size → RowAt E w' b ls → Below b w w' → w'.heap.size = b + 1 → wpList Tryz.prog ops Q rest (a.put o.dst (.slice (some ⟨b, 0, none⟩) n n)) w') : wpList Tryz.prog ops Q (o :: rest) a w := by
 unfold wpList
 rw [if_pos hw]
 exact .inl (owp_bsnE n ps ho ls hl hp hn hk h)
end
theorem RPoly.one {b c : Nat} {L : List Pnt} {w : World} (hb : RowAt ptE w c L) (h : AtB 22 w b #[.slice (some ⟨c, 0, none⟩) L.length L.length]) : RPoly (.slice (some ⟨b, 0, none⟩) 1 1) [L] w :=
 ⟨[⟨some ⟨c, 0, none⟩, L.length, L.length⟩], RSE.one (E := slE) h, rfl, fun i s l hs hl => by
  cases i with
  | zero =>
   simp only [List.getElem?_cons_zero, Option.some.injEq] at hs hl
   subst hs
   subst hl
   exact hb.rs
  | succ i => simp at hs⟩
theorem wpList_bs1SW {ops : Array Oper} {rest : List Oper} {o : Oper} {a : Act} {w : World} {Q : Exit → Act → World → Prop} (hw : Region.wanted o (yielded ops a.tmps) = true) (y : Operand) (ho : o.op = .buildSlice 55 1 #[(0, y)]) (s : Slc) (hy : a.eval y = s.v)
  (h : ∀ b w', w.heap.size ≤ b → b ≤ w.heap.size → AtB 22 w' b #[s.v] → Below b w w' → w'.heap.size = b + 1 → wpList Tryz.prog ops Q rest (a.put o.dst (.slice (some ⟨b, 0, none⟩) 1 1)) w') : wpList Tryz.prog ops Q (o :: rest) a w := by
 unfold wpList
 rw [if_pos hw]
 exact .inl (owp_bs1S y ho s hy h)
def rowS {α : Type} {k : Nat} {T ST : TypeId} (E : Elt α k T ST) (n : Nat) (m : Nat) (ls : List α) : NSpec := ⟨Nat, ⟨0⟩, fun b => .slice (some ⟨b, 0, none⟩) m m, fun b w => n ≤ b ∧ RowAt E w b ls, fun _ _ _ hb h => ⟨h.1, h.2.of_eq (hb.block _ h.2.lt)⟩⟩
def bsS1 (n : Nat) (t : TypeId) (cs : Array Value) : NSpec := ⟨Nat, ⟨0⟩, fun b => .slice (some ⟨b, 0, none⟩) 1 1, fun b w => n ≤ b ∧ AtB t w b cs, fun _ _ _ hb h => ⟨h.1, h.2.of_eq (hb.block _ h.2.lt)⟩⟩
/-! ### The values of the sanity check -/
def snA : List Pnt := [(0, 0), (2, 0), (2, 1), (0, 1)]
def snB : List Pnt := [(0, 0), (1, 0), (0, 1)]
def snP : Px := ⟨0, 0, 0, 9⟩
def snQ : Px := ⟨0, 0, 0, 1⟩
def snR1 : List TA := [⟨0, 0, cleanT (setT zT 0 0 snP)⟩]
def snR2 : List TA := [⟨0, 0, cleanT (setT (cleanT (setT zT 0 0 snP)) 1 0 snQ)⟩]
theorem sn1 : coverP snA 1 0 = 255 := by decide
theorem sn2 : coverP snB 0 0 = 96 := by decide
theorem sn3 : setR [] 0 0 snP = snR1 := by rfl
theorem sn4 : setR snR1 1 0 snQ = snR2 := by rfl
theorem sn5 : validL snR2 = true := by decide
theorem sn6 : boundL snR2 = ⟨0, 0, 2, 1⟩ := by rfl
theorem sn7 : outlG (setG snR2 1) ⟨0, 0, 2, 1⟩ = [snA] := by decide
theorem snP_ok : snP.ok := by unfold Px.ok snP; simp
theorem snQ_ok : snQ.ok := by unfold Px.ok snQ; simp
theorem snR1_tok : TokL snR1 := by
 have := setR_tok (ls := []) (x := 0) (y := 0) TokL.nil snP_ok
 rw [sn3] at this
 exact this
theorem snR2_tok : TokL snR2 := by
 have := setR_tok (x := 1) (y := 0) snR1_tok snQ_ok
 rw [sn4] at this
 exact this
theorem P_CoverGO (v : Value) (l : List Pnt) (x y n : Int) (w : World) (h : RSE ptE v l w) (hn : l.length ≤ maxLen) (hx : -70000 ≤ x ∧ x ≤ 70000) (hy : -70000 ≤ y ∧ y ≤ 70000) (e : coverP l x y = n) : Calls Tryz.prog 20 #[v, .int .i64 x, .int .i64 y] w fun e w' => e = .returned (.int .i64 n) ∧ Below w.heap.size w w' := e ▸ P_CoverG v l x y w h hn hx hy
set_option maxHeartbeats 4000000 in
theorem sanity15 (w : World) : Calls Tryz.prog 6 #[] w fun e w' => e = .returned (.bool true) ∧ Below w.heap.size w w' := by
 have B := Below.refl w.heap.size w
 go_enter Tryz.func6, Tryz.ntmps6
 go_upto_region 1 with fail
 refine wp_region_lit ?_
 try simp only [gelS]
 refine wpList_chunk 4 (by kernel_rfl) ?_
 simp only [takS, Nat.reduceAdd]
 repeat (first | go_big_quiet_skip | (go_big_quiet_want; go_big_quiet_op; go_big_quiet_on))
 refine wpQuiet_nil ?_
 (refine wpList_bsnE (E := ptE) (by first | rfl | simp [Region.wanted, yielded]) 4 _ rfl snA rfl (by simp only [Act.eval, evlS]; rfl) (by omega) (by omega) ?_; intro b_s10 wn hle hge ht hbn hzn; have hsz := B.size; replace B := B.trans (hbn.mono (by omega)); have hln := Nat.lt_of_lt_of_eq (Nat.lt_succ_self _) hzn.symm; clear hzn; have s10 := ht; clear ht; simp only [putS])
 refine wpList_callF (by first | rfl | simp [Region.wanted, yielded]) rfl (enters_of Tryz.func20 (by kernel_rfl) rfl) (by simp only [Act.eval, evlS]; rfl) ?_
 refine (P_CoverGO _ snA 1 0 255 _ (RowAt.rs s10) (by unfold maxLen snA; simp) (by omega) (by omega) sn1).mono ?_
 rintro e wn ⟨rfl, hbn⟩
 have hsz := B.size
 have hzn := hbn.size
 replace B := B.trans (hbn.mono B.size)
 refine ⟨_, rfl, ?_⟩
 simp only [putS]
 refine wpList_chunk 2 (by kernel_rfl) ?_
 simp only [takS, Nat.reduceAdd]
 repeat (first | go_big_quiet_skip | (go_big_quiet_want; go_big_quiet_op; go_big_quiet_on))
 refine wpQuiet_nil ?_
 refine wpList_nil ?_
 go_upto_region 2 with fail
 refine wp_region_lit ?_
 try simp only [gelS]
 refine wpList_chunk 3 (by kernel_rfl) ?_
 simp only [takS, Nat.reduceAdd]
 repeat (first | go_big_quiet_skip | (go_big_quiet_want; go_big_quiet_op; go_big_quiet_on))
 refine wpQuiet_nil ?_
 (refine wpList_bsnE (E := ptE) (by first | rfl | simp [Region.wanted, yielded]) 3 _ rfl snB rfl (by simp only [Act.eval, evlS]; rfl) (by omega) (by omega) ?_; intro b_s16 wn hle hge ht hbn hzn; have hsz := B.size; replace B := B.trans (hbn.mono (by omega)); have hln := Nat.lt_of_lt_of_eq (Nat.lt_succ_self _) hzn.symm; clear hzn; (try have hlt := s10.lt); have s16 := ht; clear ht; simp only [putS])
 refine wpList_callF (by first | rfl | simp [Region.wanted, yielded]) rfl (enters_of Tryz.func20 (by kernel_rfl) rfl) (by simp only [Act.eval, evlS]; rfl) ?_
 refine (P_CoverGO _ snB 0 0 96 _ (RowAt.rs s16) (by unfold maxLen snB; simp) (by omega) (by omega) sn2).mono ?_
 rintro e wn ⟨rfl, hbn⟩
 have hsz := B.size
 have hzn := hbn.size
 replace B := B.trans (hbn.mono B.size)
 refine ⟨_, rfl, ?_⟩
 simp only [putS]
 refine wpList_chunk 2 (by kernel_rfl) ?_
 simp only [takS, Nat.reduceAdd]
 repeat (first | go_big_quiet_skip | (go_big_quiet_want; go_big_quiet_op; go_big_quiet_on))
 refine wpQuiet_nil ?_
 refine wpList_nil ?_
 have SET1 : Hid (∀ w, Calls Tryz.prog 21 #[.agg #[.slice none 0 0], .int .i64 0, .int .i64 0, .agg #[.int .u8 0, .int .u8 0, .int .u8 0, .int .u8 9]] w fun e w' => ∃ n a c, e = .returned (.tuple #[.agg #[.slice a 1 c], .int .i64 n]) ∧ RS (.slice a 1 c) snR1 w' ∧ Below w.heap.size w w') := Lib.hid fun w =>
  (P_SetR _ [] 0 0 snP w (RS.nil w) TokL.nil (by unfold maxLen; simp) (by rfl) (by rfl) snP_ok).mono fun e w' ⟨v, he, hr, hb⟩ => by
   obtain ⟨a, c, rfl, _⟩ := hr.len
   rw [sn3] at he hr
   exact ⟨_, a, c, he, hr, hb⟩
 have SET2 : Hid (∀ v w, RS v snR1 w → Calls Tryz.prog 21 #[.agg #[v], .int .i64 1, .int .i64 0, .agg #[.int .u8 0, .int .u8 0, .int .u8 0, .int .u8 1]] w fun e w' => ∃ n a c, e = .returned (.tuple #[.agg #[.slice a 1 c], .int .i64 n]) ∧ RS (.slice a 1 c) snR2 w' ∧ Below w.heap.size w w') := Lib.hid fun v w h =>
  (P_SetR _ snR1 1 0 snQ w h snR1_tok (by unfold maxLen snR1; simp) (by rfl) (by rfl) snQ_ok).mono fun e w' ⟨v, he, hr, hb⟩ => by
   obtain ⟨a, c, rfl, _⟩ := hr.len
   rw [sn4] at he hr
   exact ⟨_, a, c, he, hr, hb⟩
 have OUT : Hid (∀ v w, RS v snR2 w → Calls Tryz.prog 22 #[.agg #[v], .int .i64 1] w fun e w' => ∃ a c, e = .returned (.slice a 1 c) ∧ RPoly (.slice a 1 c) [snA] w' ∧ Below w.heap.size w w') := Lib.hid fun v w h =>
  (P_Outline1 _ snR2 1 w h snR2_tok (by unfold maxLen snR2; simp) sn5 (by omega) (by rfl) (by rw [sn6]; simp)).mono fun e w' ⟨v, he, hr, hb⟩ => by
   rw [sn6, sn7] at hr
   obtain ⟨a, c, rfl, _⟩ := hr.len
   exact ⟨a, c, he, hr, hb⟩
 go_upto_region 3 with fail
 refine wp_region_lit ?_
 try simp only [gelS]
 refine wpList_chunk 2 (by kernel_rfl) ?_
 simp only [takS, Nat.reduceAdd]
 repeat (first | go_big_quiet_skip | (go_big_quiet_want; go_big_quiet_op; go_big_quiet_on))
 refine wpQuiet_nil ?_
 refine wpList_callF (by first | rfl | simp [Region.wanted, yielded]) rfl (enters_of Tryz.func21 (by kernel_rfl) rfl) (by simp only [Act.eval, evlS]; rfl) ?_
 refine (SET1.out _).mono ?_
 rintro e wn ⟨n1, a1, c1, rfl, rs1, hbn⟩
 have hsz := B.size
 have hzn := hbn.size
 replace B := B.trans (hbn.mono B.size)
 (try replace rs1 := rs1.below hbn)
 refine ⟨_, rfl, ?_⟩
 simp only [putS]
 refine wpList_chunk 3 (by kernel_rfl) ?_
 simp only [takS, Nat.reduceAdd]
 repeat (first | go_big_quiet_skip | (go_big_quiet_want; go_big_quiet_op; go_big_quiet_on))
 refine wpQuiet_nil ?_
 (refine wpList_allocBk (t := 34) rfl _ (run_alloc_R _ _ rfl) ?_; intro b_r3 wn hle hge ht hbn hzn; have hsz := B.size; replace B := B.trans (hbn.mono (by omega)); have hln := Nat.lt_of_lt_of_eq (Nat.lt_succ_self _) hzn.symm; clear hzn; (try have hlt := s10.lt); (try have hlt := s16.lt); (try have hlt := rs1.lt); (try replace rs1 := rs1.below (hbn.mono hle)); have r3 := ht; clear ht; simp only [putS])
 (refine wpList_storeB (t := 34) rfl _ _ rfl _ rfl _ rfl r3 (by kernel_rfl) rfl (by simp [Value.oneCell']) ?_; have r3o := r3; clear r3; intro wn ht hcn hzn; (try replace rs1 := rs1.chg r3o (by simp [rcA]) hcn); have hsz := B.size; replace hzn := Nat.le_of_eq hzn.symm; replace B := Chg.below B hcn (by omega) B.size; (try replace rs1 := rs1.of_eq (hcn.block _ rs1.lt (by omega))); have r3 := ht; clear ht; simp only [putS])
 refine wpList_chunk 1 (by kernel_rfl) ?_
 simp only [takS, Nat.reduceAdd]
 repeat (first | go_big_quiet_skip | (go_big_quiet_want; go_big_quiet_op; go_big_quiet_on))
 refine wpQuiet_nil ?_
 refine wpList_nil ?_
 go_upto_region 4 with fail
 refine wp_region_lit ?_
 try simp only [gelS]
 refine wpList_chunk 2 (by kernel_rfl) ?_
 simp only [takS, Nat.reduceAdd]
 repeat (first | go_big_quiet_skip | (go_big_quiet_want; first | (refine quiet_loadAny (t := 34) rfl _ _ _ rfl (fun w hw => run_load_B (ov_B r3 w hw) Tryz.isAgg34 (by kernel_rfl)) (by rfl) ?_; simp only [putS]; go_big_quiet_on) | (go_big_quiet_op; go_big_quiet_on)))
 refine wpQuiet_nil ?_
 refine wpList_callF (by first | rfl | simp [Region.wanted, yielded]) rfl (enters_of Tryz.func21 (by kernel_rfl) rfl) (by simp only [Act.eval, evlS]; rfl) ?_
 refine (SET2.out _ _ rs1).mono ?_
 rintro e wn ⟨n2, a2, c2, rfl, rs2, hbn⟩
 have hsz := B.size
 have hzn := hbn.size
 replace B := B.trans (hbn.mono B.size)
 (try replace rs1 := rs1.below hbn)
 (try replace r3 := r3.below hbn)
 clear rs1
 have rs1 := rs2
 clear rs2
 refine ⟨_, rfl, ?_⟩
 simp only [putS]
 refine wpList_chunk 3 (by kernel_rfl) ?_
 simp only [takS, Nat.reduceAdd]
 repeat (first | go_big_quiet_skip | (go_big_quiet_want; go_big_quiet_op; go_big_quiet_on))
 refine wpQuiet_nil ?_
 (refine wpList_storeB (t := 34) rfl _ _ rfl _ rfl _ rfl r3 (by kernel_rfl) rfl (by simp [Value.oneCell']) ?_; have r3o := r3; clear r3; intro wn ht hcn hzn; (try replace rs1 := rs1.chg r3o (by simp [rcA]) hcn); have hsz := B.size; replace hzn := Nat.le_of_eq hzn.symm; replace B := Chg.below B hcn (by omega) B.size; (try replace rs1 := rs1.of_eq (hcn.block _ rs1.lt (by omega))); have r3 := ht; clear ht; simp only [putS])
 refine wpList_nil ?_
 go_upto_region 5 with fail
 refine wp_region_lit ?_
 try simp only [gelS]
 refine wpList_chunk 1 (by kernel_rfl) ?_
 simp only [takS, Nat.reduceAdd]
 repeat (first | go_big_quiet_skip | (go_big_quiet_want; first | (refine quiet_loadAny (t := 34) rfl _ _ _ rfl (fun w hw => run_load_B (ov_B r3 w hw) Tryz.isAgg34 (by kernel_rfl)) (by rfl) ?_; simp only [putS]; go_big_quiet_on) | (go_big_quiet_op; go_big_quiet_on)))
 refine wpQuiet_nil ?_
 refine wpList_callF (by first | rfl | simp [Region.wanted, yielded]) rfl (enters_of Tryz.func22 (by kernel_rfl) rfl) (by simp only [Act.eval, evlS]; rfl) ?_
 refine (OUT.out _ _ rs1).mono ?_
 rintro e wn ⟨a3, c3, rfl, po, hbn⟩
 have hsz := B.size
 have hzn := hbn.size
 replace B := B.trans (hbn.mono B.size)
 (try replace po := po.below hbn)
 refine ⟨_, rfl, ?_⟩
 simp only [putS]
 refine wpList_chunk 1 (by kernel_rfl) ?_
 simp only [takS, Nat.reduceAdd]
 repeat (first | go_big_quiet_skip | (go_big_quiet_want; go_big_quiet_op; go_big_quiet_on))
 refine wpQuiet_nil ?_
 refine wpList_nil ?_
 go_upto_region 6 with fail
 refine wp_region_lit ?_
 try simp only [gelS]
 refine wpList_chunk 10 (by kernel_rfl) ?_
 simp only [takS, Nat.reduceAdd]
 repeat (first | go_big_quiet_skip | (go_big_quiet_want; go_big_quiet_op; go_big_quiet_on))
 refine wpQuiet_nil ?_
 (refine wpList_bsnE (E := ptE) (by first | rfl | simp [Region.wanted, yielded]) 4 _ rfl snA rfl (by simp only [Act.eval, evlS]; rfl) (by omega) (by omega) ?_; intro b_s43 wn hle hge ht hbn hzn; have hsz := B.size; replace B := B.trans (hbn.mono (by omega)); have hln := Nat.lt_of_lt_of_eq (Nat.lt_succ_self _) hzn.symm; clear hzn; (try have hlt := s10.lt); (try have hlt := s16.lt); (try have hlt := rs1.lt); (try have hlt := r3.lt); (try have hlt := po.lt); (try replace po := po.below (hbn.mono hle)); have s43 := ht; clear ht; simp only [putS])
 (refine wpList_bs1SW (by first | rfl | simp [Region.wanted, yielded]) _ rfl ⟨some ⟨b_s43, 0, none⟩, 4, 4⟩ rfl ?_; intro b_s44 wn hle hge ht hbn hzn; have hsz := B.size; replace B := B.trans (hbn.mono (by omega)); have hln := Nat.lt_of_lt_of_eq (Nat.lt_succ_self _) hzn.symm; clear hzn; (try have hlt := s10.lt); (try have hlt := s16.lt); (try have hlt := rs1.lt); (try have hlt := r3.lt); (try have hlt := po.lt); (try replace po := po.below (hbn.mono hle)); (try have hlt := s43.lt); (try replace s43 := s43.below (hbn.mono hle)); have s44 := ht; clear ht; simp only [putS])
 refine wpList_callF (by first | rfl | simp [Region.wanted, yielded]) rfl (enters_of Tryz.func23 (by kernel_rfl) rfl) (by simp only [Act.eval, evlS]; rfl) ?_
 refine (R_SamePaths _ _ [snA] [snA] _ po (RPoly.one s43 s44) (by simp) (by simp) (by simp [snA])).mono ?_
 rintro e wn ⟨rfl, hbn⟩
 have hsz := B.size
 have hzn := hbn.size
 replace B := B.trans (hbn.mono B.size)
 refine ⟨_, rfl, ?_⟩
 simp only [putS]
 refine wpList_chunk 2 (by kernel_rfl) ?_
 simp only [takS, Nat.reduceAdd]
 repeat (first | go_big_quiet_skip | (go_big_quiet_want; go_big_quiet_op; go_big_quiet_on))
 refine wpQuiet_nil ?_
 refine wpList_nil ?_
 go_wp2
 go_ret
 exact ⟨rfl, B⟩
end Go.Proofs.YtamgpfblhlfhaaaGreat
/- How this seat's arguments are opened: slices of integers, rectangles, generated rasters. -/
namespace Go.Proofs.YtamgpfblhlfhaaaGreat
open Go.ChangeShapes Go.WideShapes Go.ChangeAt Go.RowKit Pl
set_option linter.unusedVariables false
set_option linter.unusedSimpArgs false
set_option maxRecDepth 20000
theorem reach_44 : reachBytes ≤ 140737488351232 := by decide
section
variable {H : Type} {enc : TypeId × Value → H} {w : World} {base : Nat} {spare : Nat → Bool} {held : Bool}
theorem addr_add0 (b off n : Nat) : (Addr.add ⟨b, off, none⟩ n) = ⟨b, off + n, none⟩ := by
 unfold Addr.add; split
 ·rename_i h; subst h; rfl
 ·rfl
theorem trod_ints {fuel : Nat} {cs : List Value} {x : DataW H × List MemPlace} (h : DataW.trod enc Tryz.prog w base spare held fuel 23 cs = some x) (hw : ∀ n ∈ x.1.weights Tryz.prog 23, n ≤ reachBytes) :
  ∃ v L, cs = [v] ∧ RSE inE v L w ∧ L.length ≤ 17592186044416 := by
 have hC : Tryz.prog.cellsOf 3 = 1 := by kernel_rfl
 have hB : Tryz.prog.bytesOf 3 = 8 := by kernel_rfl
 rcases open_ints Tryz.underlying23 Tryz.underlying3 hC h with ⟨rfl, rfl⟩ | ⟨a, len, cap, zs, rfl, _, hl, hcap, hz, rfl, hcell, _⟩
 ·exact ⟨_, [], rfl, RSE.nil w, by simp⟩
 ·have hzl : len ≤ zs.length := by rw [hz]; split <;> omega
  have htl : (zs.take len).length = len := by rw [List.length_take, Nat.min_eq_left hzl]
  refine ⟨_, zs.take len, rfl, ?_, ?_⟩
  ·by_cases h0 : len = 0
   ·subst h0; exact .inr (.inr ⟨a, cap, rfl, by simp⟩)
   ·obtain ⟨b, off, spot⟩ := a
    have c0 := hcell 0 (by omega)
    have hspot : spot = none := by simpa [Addr.add] using World.cell?_spot c0
    subst hspot
    simp only [addr_add0] at hcell c0
    refine .inr (.inl ⟨b, off, cap, by rw [htl], by rw [htl]; exact hl, fun _ => ⟨World.block_lt_of_cell? w _ c0, fun i x hi j hj => ?_⟩⟩)
    obtain rfl : j = 0 := by omega
    have hil : i < len := by rw [← htl]; exact (List.getElem?_eq_some_iff.1 hi).1
    rw [List.getElem?_take_of_lt hil] at hi
    rw [Nat.mul_one, Nat.add_zero, hcell i (by omega), List.getD_eq_getElem?_getD, hi]
    rfl
  ·rw [htl]
   have := hw ((len + (zs.length - len)) * 8) (by simp [DataW.weights, Tryz.underlying23, hB, lits, Nat.min_eq_left hzl])
   have := reach_44
   omega
theorem open_ints1 {r : Reach} {b0 : Nat} {v : Value} {d : DataW H} {p : List MemPlace} (hv : Value.okWide Tryz.prog w r b0 23 v)
  (h : DataW.Trod enc Tryz.prog w base spare held 23 v d p) (hw : ∀ n ∈ d.weights Tryz.prog 23, n ≤ reachBytes) : ∃ L, RSE inE v L w ∧ L.length ≤ 17592186044416 := by
 obtain ⟨a0, len, cap, rfl⟩ := okWide_slice Tryz.underlying23 hv
 obtain ⟨fuel, hf⟩ := h
 obtain ⟨v', L, e, h1, h2⟩ := trod_ints hf hw
 simp [Value.cells] at e
 subst e
 exact ⟨L, h1, h2⟩
theorem trod_int1 {fuel : Nat} {cs : List Value} {x : DataW H × List MemPlace} (h : DataW.trod enc Tryz.prog w base spare held fuel 3 cs = some x) : ∃ n : Int, cs = [.int .i64 n] ∧ (Lit.int .i64 n).wf = true := by
 obtain ⟨n, e, _, wf⟩ := DataW.trod_int Tryz.underlying3 h
 exact ⟨n, e, wf⟩
end
end Go.Proofs.YtamgpfblhlfhaaaGreat
/- Opening arguments of chapter 15's laws: slices of points, arrays of four and five integers. -/
namespace Go.Proofs.YtamgpfblhlfhaaaGreat
open Go.RowKit Go.Shelf Pl
open Go.ChangeShapes Go.WideShapes Go.ChangeAt
set_option linter.unusedVariables false
set_option linter.unusedSimpArgs false
set_option maxRecDepth 20000
section
variable {H : Type} {enc : TypeId × Value → H} {w : World} {base : Nat} {spare : Nat → Bool} {held : Bool}
theorem trod_pt {fuel : Nat} {cs : List Value} {x : DataW H × List MemPlace} (hc : cs.length = 2) (h : DataW.trod enc Tryz.prog w base spare held fuel 53 cs = some x) :
  ∃ p : Int × Int, cs = [.int .i64 p.1, .int .i64 p.2] ∧ (Lit.int .i64 p.1).wf = true ∧ (Lit.int .i64 p.2).wf = true := by
 match cs, hc with
 | [c0, c1], _ =>
  have hC : Tryz.prog.cellsOf 3 = 1 := by kernel_rfl
  obtain ⟨y0, y1, n, _, _, h0, h1⟩ := trod_struct2 Tryz.underlying53 h
  simp only [hC, List.drop_zero, List.drop_succ_cons, List.take_succ_cons, List.take_zero] at h0 h1
  obtain ⟨a, ea, wa⟩ := trod_int1 h0
  obtain ⟨b, eb, wb⟩ := trod_int1 h1
  simp at ea eb
  exact ⟨(a, b), by rw [ea, eb], wa, wb⟩
theorem open_pts {r : Reach} {b0 : Nat} {v : Value} {d : DataW H} {p : List MemPlace} (hv : Value.okWide Tryz.prog w r b0 22 v)
  (h : DataW.Trod enc Tryz.prog w base spare held 22 v d p) : ∃ l : List (Int × Int), RSE ptE v l w ∧ l.length ≤ maxLen := by
 obtain ⟨a0, len, cap, rfl⟩ := okWide_slice Tryz.underlying22 hv
 obtain ⟨fuel, hf⟩ := h
 have hC : Tryz.prog.cellsOf 53 = 2 := by kernel_rfl
 rcases Deep.open_slice Tryz.underlying22 hf with ⟨hcs, _⟩ | ⟨a, len', cap', m, n, D, Pq, hcs, hb, hl, hcap, hm, _, hel⟩
 ·simp [Value.cells] at hcs
  obtain ⟨rfl, rfl, rfl⟩ := hcs
  exact ⟨[], .inl ⟨rfl, rfl⟩, by unfold maxLen; simp⟩
 ·simp [Value.cells] at hcs
  obtain ⟨rfl, rfl, rfl⟩ := hcs
  by_cases h0 : len = 0
  ·subst h0
   exact ⟨[], .inr (.inr ⟨_, _, rfl, rfl⟩), by unfold maxLen; simp⟩
  ·have key : ∀ i, i < len → ∃ d : Int × Int, ∀ j, j < 2 → w.cell? ((a.add (i * 2)).add j) = (ptE.enc d)[j]? := fun i hi => by
    obtain ⟨cs, h1, h2⟩ := hel i (by rw [hm]; split <;> omega)
    rw [hC] at h1
    obtain ⟨_, hlen, hcell⟩ := World.cells?_some h1
    obtain ⟨d, rfl, _⟩ := trod_pt hlen h2
    exact ⟨d, fun j hj => by rw [hcell j hj]; show _ = (#[Value.int .i64 d.1, .int .i64 d.2])[j]?; simp⟩
   have hspot : a.spot = none := by
    obtain ⟨d, hc⟩ := key 0 (by omega)
    have := hc 0 (by omega)
    rw [Nat.zero_mul] at this
    have e : (a.add 0).add 0 = a := rfl
    rw [e] at this
    exact World.cell?_spot this
   obtain ⟨b, off, spot⟩ := a
   simp only at hspot
   subst hspot
   simp only [addr_add0] at key
   let f : Nat → Int × Int := fun i => if hi : i < len then Classical.choose (key i hi) else (0, 0)
   have hf1 : ∀ i, i < len → ∀ j, j < 2 → w.cell? ⟨b, off + i * 2 + j, none⟩ = (ptE.enc (f i))[j]? := fun i hi => by
    have := Classical.choose_spec (key i hi)
    simp only [f, dif_pos hi]
    exact this
   refine ⟨(List.range len).map f, .inr (.inl ⟨b, off, cap, by simp, by simp; exact hl, fun _ => ⟨?_, fun i x hi j hj => ?_⟩⟩), by simp; omega⟩
   ·have := hf1 0 (by omega) 0 (by omega)
    exact World.block_lt_of_cell? w _ (this.trans rfl)
   ·have hil : i < len := by
     have := (List.getElem?_eq_some_iff.1 hi).1
     simpa using this
    rw [List.getElem?_map, List.getElem?_range hil] at hi
    have hx : f i = x := by simpa using hi
    rw [← hx, ← Nat.add_assoc]
    exact hf1 i hil j hj
end
end Go.Proofs.YtamgpfblhlfhaaaGreat
/- Slices of integers opened with their bounds; the reference's Mask. -/
namespace Go.Proofs.YtamgpfblhlfhaaaGreat
open Go.RowKit Go.Shelf Pl
set_option linter.unusedVariables false
set_option linter.unusedSimpArgs false
set_option maxRecDepth 20000
def WfL (L : List Int) : Prop := ∀ x ∈ L, (Lit.int .i64 x).wf = true
section
open Go.ChangeShapes Go.WideShapes Go.ChangeAt
variable {H : Type} {enc : TypeId × Value → H} {w : World} {base : Nat} {spare : Nat → Bool} {held : Bool}
end
theorem WfL.at {L : List Int} (h : WfL L) {i : Nat} {x : Int} (hi : L[i]? = some x) : -9223372036854775808 ≤ x ∧ x ≤ 9223372036854775807 := by
 have := h x (List.mem_of_getElem? hi)
 have hmin : IntKind.i64.min = -9223372036854775808 := rfl
 have hmax : IntKind.i64.max = 9223372036854775807 := rfl
 simp only [Lit.wf, Bool.and_eq_true, decide_eq_true_eq] at this
 omega
/- For chapter 15's laws: contracts told with their values, slices cut short, '==' of rectangles, lists of polygons as values. -/
theorem RSE.takeN {α : Type} {k : Nat} {T ST : TypeId} {E : Elt α k T ST} {a : Option Addr} {n c m : Nat} {ls : List α} {w : World} (h : RSE E (.slice a n c) ls w) (hm : m ≤ ls.length) : RSE E (.slice a m c) (ls.take m) w := by
 rcases h with ⟨e, rfl⟩ | ⟨g, o, c', e, hl, sc⟩ | ⟨a', c', e, rfl⟩
 ·obtain rfl : m = 0 := by simpa using hm
  simp only [Value.slice.injEq] at e
  obtain ⟨rfl, _, rfl⟩ := e
  exact .inl ⟨rfl, rfl⟩
 ·simp only [Value.slice.injEq] at e
  obtain ⟨rfl, _, rfl⟩ := e
  have hl2 : (ls.take m).length = m := by rw [List.length_take]; omega
  exact .inr (.inl ⟨g, o, c, by rw [hl2], by rw [hl2]; omega, fun h0 => (sc (by omega)).take m⟩)
 ·obtain rfl : m = 0 := by simpa using hm
  simp only [Value.slice.injEq] at e
  obtain ⟨rfl, _, rfl⟩ := e
  exact .inr (.inr ⟨a', c, rfl, rfl⟩)
/-- v is a slice of ls that lies in the blocks below n. -/
def RSN {α : Type} {k : Nat} {T ST : TypeId} (E : Elt α k T ST) (n : Nat) (v : Value) (ls : List α) (w : World) : Prop := n ≤ w.heap.size ∧ ∀ w', Below n w w' → RSE E v ls w'
section
variable {α : Type} {k : Nat} {T ST : TypeId} {E : Elt α k T ST} {n b : Nat} {v : Value} {ls : List α} {w w' : World}
theorem RSN.mk (h : RSE E v ls w) : RSN E w.heap.size v ls w := ⟨Nat.le_refl _, fun w' hb => h.below hb⟩
theorem RSN.rs (h : RSN E n v ls w) : RSE E v ls w := h.2 w (Below.refl _ _)
theorem RSN.below (h : RSN E n v ls w) (hb : Below w.heap.size w w') : RSN E n v ls w' := ⟨Nat.le_trans h.1 hb.size, fun w'' h2 => h.2 w'' ((hb.mono h.1).trans h2)⟩
theorem RSN.chg (h : RSN E n v ls w) (hc : Chg b w w') (hb : n ≤ b) : RSN E n v ls w' := ⟨Nat.le_trans h.1 hc.size, fun w'' h2 => h.2 w'' ((Chg.below (Below.refl n w) hc hb h.1).trans h2)⟩
end
def polyS (P : List (List Pnt)) : NSpec := ⟨Option Addr × Nat, ⟨(none, 0)⟩, fun x => .slice x.1 P.length x.2, fun x w => RPoly (.slice x.1 P.length x.2) P w, fun _ _ _ hb h => h.below hb⟩
theorem RPoly.nil (w : World) : RPoly (.slice none 0 0) [] w := ⟨[], RSE.nil w, rfl, fun i s l h => by simp at h⟩
/- Contract of Paste of the reference. -/
end Go.Proofs.YtamgpfblhlfhaaaGreat
/- Paste of both packages, whether the rectangle fits or not. -/
namespace Go.Proofs.YtamgpfblhlfhaaaGreat
open Go.RowKit Go.Shelf Pl
set_option linter.unusedVariables false
set_option linter.unusedSimpArgs false
theorem P_PasteA (v : Value) (ls : List TA) (c : Rc) (u : Value) (L : List Px) (w : World) (h : RS v ls w) (tk : TokL ls) (hn : ls.length ≤ maxLen) (hu : RSE pxE u L w) (hLn : L.length ≤ maxLen) (okL : OkL L) : Calls Tryz.prog 68 #[.agg #[v], .agg (imgC c u)] w fun e w' => ∃ a cp, e = .returned (.tuple #[.agg #[.slice a (pstR c L ls).length cp], .int .i64 (pstE c L ls)]) ∧ RS (.slice a (pstR c L ls).length cp) (pstR c L ls) w' ∧ Below w.heap.size w w' := by
 obtain ⟨ad, cu, rfl, hcu⟩ := hu.len
 by_cases hV : validR c = true
 ·by_cases hA : (L.length : Int) = areaR c
  ·have e1 : pstR c L ls = if fitsE c = 0 then manyL (pstL c L (fineL ls) (posL c)) else [] := if_pos ⟨hV, hA⟩
   have e2 : pstE c L ls = if fitsE c = 0 then manyE (pstL c L (fineL ls) (posL c)) else fitsE c := if_pos ⟨hV, hA⟩
   by_cases hF : fitsE c = 0
   ·rw [e1, e2, if_pos hF, if_pos hF]
    have hL : L.length = areaN c := by have := area_N (fitsE_zero hF); omega
    exact P_Paste_ok v ls c _ L w h tk hn hF hu hL okL
   ·rw [e1, e2, if_neg hF, if_neg hF]
    refine (P_Paste_big v ls c ad L.length cu w h hLn hV hA.symm _ rfl hF).mono fun e w' ⟨he, hb⟩ => ?_
    exact ⟨none, 0, he, RS.nil _, hb⟩
  ·have e1 : pstR c L ls = [] := if_neg (fun e => hA e.2)
   have e2 : pstE c L ls = 1 := if_neg (fun e => hA e.2)
   rw [e1, e2]
   refine (P_Paste_len v ls c ad L.length cu w h hLn hV _ rfl hA).mono fun e w' ⟨he, hb⟩ => ?_
   exact ⟨none, 0, he, RS.nil _, hb⟩
 ·have e1 : pstR c L ls = [] := if_neg (fun e => hV e.1)
  have e2 : pstE c L ls = 1 := if_neg (fun e => hV e.1)
  rw [e1, e2]
  refine (P_Paste_inv v ls c ad L.length cu w h hLn (by simpa using hV)).mono fun e w' ⟨he, hb⟩ => ?_
  exact ⟨none, 0, he, RS.nil _, hb⟩
end Go.Proofs.YtamgpfblhlfhaaaGreat
/- Plain: a rectangle painted pixel by pixel, and by pasting one image. -/
namespace Go.Proofs.YtamgpfblhlfhaaaGreat
open Go.RowKit Pl
set_option linter.unusedVariables false
set_option linter.unusedSimpArgs false
theorem set_eq {r : List TA} {X Y : Int} (hv : validL r = true) (hw : withinB (X / 8) (Y / 8) = true) (hn : r.length + 1 ≤ 1024) (p : Px) : setE r X Y p = 0 ∧ setR r X Y p = putL r (X / 8) (Y / 8) (cleanT (setT (tileL r (X / 8) (Y / 8)) (X % 8) (Y % 8) p)) := by
 have hl := putL_length r (X / 8) (Y / 8) (cleanT (setT (tileL r (X / 8) (Y / 8)) (X % 8) (Y % 8) p))
 constructor
 ·unfold setE putE manyE setS
  rw [if_pos hw, fineL_of hv, if_pos (by omega)]
 ·unfold setR putR manyL setS
  rw [if_pos hw, fineL_of hv, if_pos (by omega)]
theorem set_get {r : List TA} {X Y : Int} (hv : validL r = true) (hw : withinB (X / 8) (Y / 8) = true) (hn : r.length + 1 ≤ 1024) (p : Px) (x y : Int) : getL (setR r X Y p) x y = if x = X ∧ y = Y then cleanP p else getL r x y := by
 rw [(set_eq hv hw hn p).2]
 unfold getL
 have hi : (8 * (y % 8) + x % 8).toNat < 64 := by omega
 by_cases h : eqB (X / 8) (Y / 8) (x / 8) (y / 8) = true
 ·have h' := of_decide_eq_true h
  rw [← h'.1, ← h'.2, tileL_put_same (validL_srt hv)]
  have hz : ∀ t : Nat → Px, (if zeroB (cleanT t) = true then zT else cleanT t) (8 * (y % 8) + x % 8).toNat = cleanP (t (8 * (y % 8) + x % 8).toNat) := fun t => by
   split
   ·rename_i hz
    have ha := (zeroB_iff _).1 hz _ hi
    show Px.zero = cleanP (t _)
    unfold cleanT at ha
    unfold cleanP at ha ⊢
    split
    ·rfl
    ·rename_i hne
     rw [if_neg hne] at ha
     exact absurd ha hne
   ·rfl
  rw [hz]
  have hin : insB (X % 8) (Y % 8) = true := decide_eq_true (by omega)
  unfold setT
  rw [hin, if_pos rfl]
  unfold upd
  by_cases hxy : x = X ∧ y = Y
  ·rw [if_pos hxy, hxy.1, hxy.2, if_pos (by unfold posI; rfl)]
  ·rw [if_neg hxy, if_neg (by unfold posI; omega)]
   exact tileL_clean hv _ _ hi
 ·have h2 : eqB (X / 8) (Y / 8) (x / 8) (y / 8) = false := by simpa using h
  rw [tileL_put_other _ _ _ _ h2, if_neg (fun hh => by
   rw [hh.1, hh.2] at h2
   simp [eqB] at h2)]
/-- The pixels of a rectangle by a function. -/
def paintL (c : Rc) (f : Int → Int → Px) : List Px := (List.range (areaN c)).map fun j => f (pxX c j) (pxY c j)
theorem paintL_len (c : Rc) (f : Int → Int → Px) : (paintL c f).length = areaN c := by unfold paintL; rw [List.length_map, List.length_range]
theorem paintL_at (c : Rc) (f : Int → Int → Px) {j : Nat} (h : j < areaN c) : (paintL c f)[j]? = some (f (pxX c j) (pxY c j)) := by
 unfold paintL
 rw [List.getElem?_map, List.getElem?_range h]
 rfl
theorem paintL_ok {c : Rc} {f : Int → Int → Px} (h : ∀ x y, (f x y).ok) : OkL (paintL c f) := fun p hp => by
 unfold paintL at hp
 obtain ⟨j, _, rfl⟩ := List.mem_map.1 hp
 exact h _ _
theorem pix_paint {c : Rc} (hf : Fits c) (f : Int → Int → Px) {x y : Int} (h : hasR c x y = true) : pixL c (paintL c f) x y = f x y := by
 have hh := (hasR_iff _ _ _).1 h
 obtain ⟨k, e1, e2, e3, e4⟩ := px_xy hf (X := (x - c.x0).toNat) (Y := (y - c.y0).toNat) (by omega) (by omega)
 have ek : (idxI c x y).toNat = k := by
  unfold idxI
  have hy : (((y - c.y0).toNat : Nat) : Int) = y - c.y0 := by omega
  have hx : (((x - c.x0).toNat : Nat) : Int) = x - c.x0 := by omega
  rw [hy, hx] at e1
  omega
 unfold pixL
 rw [ek, List.getD_eq_getElem?_getD, paintL_at c f e2, e3, e4]
 show f _ _ = _
 congr 1 <;> omega
theorem tlN_area {c : Rc} (hf : Fits c) : tlN c ≤ areaN c := by
 have e := (area_wid (tl_fits hf)).1
 have e' := (area_wid hf).1
 unfold tlN
 rw [e, e']
 have h1 := hf.h1
 have h2 := hf.h2
 refine Nat.mul_le_mul ?_ ?_
 ·unfold widN tlR; simp only; omega
 ·unfold tlR; simp only; omega
theorem paint_R {c : Rc} (hE : fitsE c = 0) (hA : tlN c ≤ 1000) (f : Int → Int → Px) : pstR c (paintL c f) [] = pstL c (paintL c f) [] (posL c) ∧ pstE c (paintL c f) [] = 0 := by
 have hF := fitsE_zero hE
 have hV := hF.valid
 have hl := pstL_len c (paintL c f) (posL c) []
 rw [posL_len, List.length_nil] at hl
 have hAr : ((paintL c f).length : Int) = areaR c := by rw [paintL_len, area_N hF]
 have e1 : pstR c (paintL c f) [] = if fitsE c = 0 then manyL (pstL c (paintL c f) (fineL []) (posL c)) else [] := if_pos ⟨hV, hAr⟩
 have e2 : pstE c (paintL c f) [] = if fitsE c = 0 then manyE (pstL c (paintL c f) (fineL []) (posL c)) else fitsE c := if_pos ⟨hV, hAr⟩
 rw [e1, e2, if_pos hE, if_pos hE, show fineL ([] : List TA) = [] from rfl]
 unfold manyL manyE
 rw [if_pos (by omega), if_pos (by omega)]
 exact ⟨rfl, rfl⟩
theorem paint_get {c : Rc} (hE : fitsE c = 0) (hA : tlN c ≤ 1000) (f : Int → Int → Px) (x y : Int) : getL (pstR c (paintL c f) []) x y = if hasR c x y = true then cleanP (f x y) else Px.zero := by
 have hF := fitsE_zero hE
 rw [(paint_R hE hA f).1, getL_pst hF _ (validL_srt rfl) (valid_clean rfl)]
 split
 ·rename_i h
  rw [pix_paint hF f h]
 ·rfl
/-- Pixel by pixel; a pixel that `g` bars is passed by. -/
def setsK (c : Rc) (f : Int → Int → Px) (g : Int → Int → Bool) : Nat → List TA
 | 0 => []
 | k + 1 => if g (pxX c k) (pxY c k) = true then setR (setsK c f g k) (pxX c k) (pxY c k) (f (pxX c k) (pxY c k)) else setsK c f g k
theorem px_within {c : Rc} (hf : Fits c) {j : Nat} (h : j < areaN c) : withinB (pxX c j / 8) (pxY c j / 8) = true := by
 have hh := (hasR_iff _ _ _).1 (px_in hf h)
 obtain ⟨a1, a2, a3, a4, a5, a6, a7, a8⟩ := hf
 exact decide_eq_true (by omega)
theorem srt_len {R : Rc} (hR : Fits R) {ls : List TA} (hs : Srt ls) (h : ∀ e ∈ ls, hasR R e.x e.y = true) : ls.length ≤ areaN R := by
 obtain ⟨ea, hw⟩ := area_wid hR
 have hW : (widN R : Int) = R.x1 - R.x0 := by unfold widN; have := hR.h1; omega
 have key : ∀ e ∈ ls, (e.x - R.x0).toNat < widN R ∧ ((e.x - R.x0).toNat : Int) = e.x - R.x0 ∧ ((e.y - R.y0).toNat : Int) = e.y - R.y0 ∧ (e.y - R.y0).toNat < (R.y1 - R.y0).toNat := fun e he => by
  have := (hasR_iff _ _ _).1 (h e he)
  omega
 have hp : (ls.map fun e => (e.y - R.y0).toNat * widN R + (e.x - R.x0).toNat).Pairwise (· < ·) := by
  rw [List.pairwise_map]
  refine hs.imp_of_mem fun {a b} ha hb hab => ?_
  obtain ⟨a1, a2, a3, _⟩ := key a ha
  obtain ⟨b1, b2, b3, _⟩ := key b hb
  have hh := of_decide_eq_true hab
  rcases hh with hh | ⟨h1, h2⟩
  ·have : (a.y - R.y0).toNat + 1 ≤ (b.y - R.y0).toNat := by omega
   have := Nat.mul_le_mul_right (widN R) this
   rw [Nat.add_mul, Nat.one_mul] at this
   omega
  ·have : (a.y - R.y0).toNat = (b.y - R.y0).toNat := by omega
   rw [this]
   omega
 have := inc_len _ 0 (areaN R) hp fun x hx => by
  obtain ⟨e, he, rfl⟩ := List.mem_map.1 hx
  obtain ⟨a1, a2, a3, a4⟩ := key e he
  refine ⟨Nat.zero_le _, ?_⟩
  have := Nat.mul_le_mul_right (widN R) (show (e.y - R.y0).toNat + 1 ≤ (R.y1 - R.y0).toNat by omega)
  rw [Nat.add_mul, Nat.one_mul] at this
  rw [ea, Nat.mul_comm (widN R)]
  omega
 simpa using this
theorem px_tile {c : Rc} (hf : Fits c) {j : Nat} (h : j < areaN c) : hasR (tlR c) (pxX c j / 8) (pxY c j / 8) = true := by
 have hh := (hasR_iff _ _ _).1 (px_in hf h)
 rw [hasR_iff]
 unfold tlR
 simp only
 omega
theorem setsK_pos {c : Rc} (hf : Fits c) (hA : tlN c ≤ 1000) (f : Int → Int → Px) (g : Int → Int → Bool) : ∀ k, k ≤ areaN c → validL (setsK c f g k) = true ∧ (∀ e ∈ setsK c f g k, hasR (tlR c) e.x e.y = true) ∧ (setsK c f g k).length ≤ 1000
 | 0, _ => ⟨rfl, fun e he => (by cases he), Nat.zero_le _⟩
 | k + 1, hk => by
  obtain ⟨h1, h2, h3⟩ := setsK_pos hf hA f g k (by omega)
  have hw := px_within hf (j := k) (by omega)
  by_cases hg : g (pxX c k) (pxY c k) = true
  ·have e : setsK c f g (k + 1) = setR (setsK c f g k) (pxX c k) (pxY c k) (f (pxX c k) (pxY c k)) := if_pos hg
   rw [e]
   have hv := setR_valid (setsK c f g k) (pxX c k) (pxY c k) (f (pxX c k) (pxY c k))
   have hm : ∀ e ∈ setR (setsK c f g k) (pxX c k) (pxY c k) (f (pxX c k) (pxY c k)), hasR (tlR c) e.x e.y = true := by
    rw [(set_eq h1 hw (by omega) _).2]
    intro e he
    rcases putL_mem he with he | ⟨rfl, _⟩
    ·exact h2 e he
    ·exact px_tile hf (by omega)
   have := srt_len (tl_fits hf) (validL_srt hv) hm
   exact ⟨hv, hm, Nat.le_trans this hA⟩
  ·have e : setsK c f g (k + 1) = setsK c f g k := if_neg hg
   rw [e]
   exact ⟨h1, h2, h3⟩
theorem setsK_spec {c : Rc} (hf : Fits c) (hA : tlN c ≤ 1000) (f : Int → Int → Px) (g : Int → Int → Bool) : ∀ k, k ≤ areaN c → validL (setsK c f g k) = true ∧ (setsK c f g k).length ≤ 1000 ∧
  ∀ x y, getL (setsK c f g k) x y = if (∃ j, j < k ∧ pxX c j = x ∧ pxY c j = y) ∧ g x y = true then cleanP (f x y) else Px.zero
 | 0, _ => ⟨rfl, Nat.zero_le _, fun x y => by rw [if_neg (fun ⟨⟨j, h, _⟩, _⟩ => by omega)]; rfl⟩
 | k + 1, hk => by
  obtain ⟨h1, h2, h3⟩ := setsK_spec hf hA f g k (by omega)
  have hw := px_within hf (j := k) (by omega)
  by_cases hg : g (pxX c k) (pxY c k) = true
  ·have e : setsK c f g (k + 1) = setR (setsK c f g k) (pxX c k) (pxY c k) (f (pxX c k) (pxY c k)) := if_pos hg
   rw [e]
   refine ⟨setR_valid _ _ _ _, by rw [← e]; exact (setsK_pos hf hA f g (k + 1) hk).2.2, fun x y => ?_⟩
   rw [set_get h1 hw (by omega), h3]
   by_cases hxy : x = pxX c k ∧ y = pxY c k
   ·obtain ⟨rfl, rfl⟩ := hxy
    rw [if_pos ⟨rfl, rfl⟩, if_pos ⟨⟨k, by omega, rfl, rfl⟩, hg⟩]
   ·rw [if_neg hxy]
    have : (∃ j, j < k + 1 ∧ pxX c j = x ∧ pxY c j = y) ↔ ∃ j, j < k ∧ pxX c j = x ∧ pxY c j = y := by
     constructor
     ·rintro ⟨j, hj, rfl, rfl⟩
      refine ⟨j, ?_, rfl, rfl⟩
      by_cases hjk : j = k
      ·subst hjk; exact absurd ⟨rfl, rfl⟩ hxy
      ·omega
     ·rintro ⟨j, hj, e1, e2⟩
      exact ⟨j, by omega, e1, e2⟩
    by_cases hq : (∃ j, j < k ∧ pxX c j = x ∧ pxY c j = y) ∧ g x y = true
    ·rw [if_pos hq, if_pos ⟨this.2 hq.1, hq.2⟩]
    ·rw [if_neg hq, if_neg (fun h => hq ⟨this.1 h.1, h.2⟩)]
  ·have e : setsK c f g (k + 1) = setsK c f g k := if_neg hg
   rw [e]
   refine ⟨h1, by omega, fun x y => ?_⟩
   rw [h3]
   by_cases hxy : x = pxX c k ∧ y = pxY c k
   ·obtain ⟨rfl, rfl⟩ := hxy
    rw [if_neg (fun h => hg h.2), if_neg (fun h => hg h.2)]
   ·have : (∃ j, j < k + 1 ∧ pxX c j = x ∧ pxY c j = y) ↔ ∃ j, j < k ∧ pxX c j = x ∧ pxY c j = y := by
     constructor
     ·rintro ⟨j, hj, rfl, rfl⟩
      refine ⟨j, ?_, rfl, rfl⟩
      by_cases hjk : j = k
      ·subst hjk; exact absurd ⟨rfl, rfl⟩ hxy
      ·omega
     ·rintro ⟨j, hj, e1, e2⟩
      exact ⟨j, by omega, e1, e2⟩
    by_cases hq : (∃ j, j < k ∧ pxX c j = x ∧ pxY c j = y) ∧ g x y = true
    ·rw [if_pos hq, if_pos ⟨this.2 hq.1, hq.2⟩]
    ·rw [if_neg hq, if_neg (fun h => hq ⟨this.1 h.1, h.2⟩)]
theorem setsK_err {c : Rc} (hf : Fits c) (hA : tlN c ≤ 1000) (f : Int → Int → Px) (g : Int → Int → Bool) {k : Nat} (hk : k < areaN c) (p : Px) : setE (setsK c f g k) (pxX c k) (pxY c k) p = 0 := by
 obtain ⟨h1, h2, _⟩ := setsK_spec hf hA f g k (by omega)
 exact (set_eq h1 (px_within hf hk) (by omega) p).1
theorem setsK_get {c : Rc} (hf : Fits c) (hA : tlN c ≤ 1000) (f : Int → Int → Px) (g : Int → Int → Bool) (x y : Int) : getL (setsK c f g (areaN c)) x y = if hasR c x y = true ∧ g x y = true then cleanP (f x y) else Px.zero := by
 rw [(setsK_spec hf hA f g _ (Nat.le_refl _)).2.2]
 have : (∃ j, j < areaN c ∧ pxX c j = x ∧ pxY c j = y) ↔ hasR c x y = true := by
  constructor
  ·rintro ⟨j, hj, rfl, rfl⟩
   exact px_in hf hj
  ·intro h
   have hh := (hasR_iff _ _ _).1 h
   obtain ⟨k, e1, e2, e3, e4⟩ := px_xy hf (X := (x - c.x0).toNat) (Y := (y - c.y0).toNat) (by omega) (by omega)
   exact ⟨k, e2, by omega, by omega⟩
 by_cases hq : hasR c x y = true ∧ g x y = true
 ·rw [if_pos hq, if_pos ⟨this.2 hq.1, hq.2⟩]
 ·rw [if_neg hq, if_neg (fun h => hq ⟨this.1 h.1, h.2⟩)]
/-- Both ways give the same raster. -/
theorem paint_sets {c : Rc} (hE : fitsE c = 0) (hA : tlN c ≤ 1000) (f f' : Int → Int → Px) (g : Int → Int → Bool) (h : ∀ x y, hasR c x y = true → cleanP (f x y) = if g x y = true then cleanP (f' x y) else Px.zero) : eqL (pstR c (paintL c f) []) (setsK c f' g (areaN c)) = true := by
 have hF := fitsE_zero hE
 refine eqL_get (pstR_valid _ _ _) (setsK_spec hF hA f' g _ (Nat.le_refl _)).1 fun x y => ?_
 rw [paint_get hE hA, setsK_get hF hA]
 by_cases hh : hasR c x y = true
 ·rw [if_pos hh, h x y hh]
  by_cases hg : g x y = true
  ·rw [if_pos hg, if_pos ⟨hh, hg⟩]
  ·rw [if_neg hg, if_neg (fun k => hg k.2)]
 ·rw [if_neg hh, if_neg (fun k => hh k.1)]
/- Plain: the polygon of a rectangle; a mask inverted within a rectangle. -/
def rcP (r : Rc) : List Pnt := [(r.x0, r.y0), (r.x1, r.y0), (r.x1, r.y1), (r.x0, r.y1)]
def rcQ (r : Rc) : List Pnt := [(r.x1, r.y1), (r.x1, r.y0), (r.x0, r.y0), (r.x0, r.y1)]
def cov2 (b : Bool) : Int := if b = true then 255 else 0
/-! ### A mask inverted -/
def invF (ls : List TA) (x y : Int) : Px := ⟨0, 0, 0, 255 - (getL ls x y).a⟩
def invL (r : Rc) (ls : List TA) : List TA := pstR r (paintL r (invF ls)) []
theorem fits_small {r : Rc} (h : -65536 ≤ r.x0 ∧ r.x1 ≤ 65536 ∧ -65536 ≤ r.y0 ∧ r.y1 ≤ 65536) (k : r.x0 < r.x1 ∧ r.y0 < r.y1) (s : r.x1 - r.x0 ≤ 256 ∧ r.y1 - r.y0 ≤ 256) : fitsE r = 0 := by
 unfold fitsE
 rw [if_pos ((validR_iff _).2 ⟨⟨by omega, by omega⟩, by omega, by omega, by omega, by omega⟩), if_neg (by omega)]
end Go.Proofs.YtamgpfblhlfhaaaGreat
/- Contract of painted: a rectangle's pixels by a function value. -/
namespace Go.Proofs.YtamgpfblhlfhaaaGreat
open Go.RowKit Go.Shelf Pl
set_option linter.unusedVariables false
set_option linter.unusedSimpArgs false
set_option maxRecDepth 20000
def bsP1 (n : Nat) (t : TypeId) (cs : Array Value) : NSpec := ⟨Nat, ⟨0⟩, fun b => .slice (some ⟨b, 0, none⟩) 1 1, fun b w => n ≤ b ∧ AtB t w b cs, fun _ _ _ hb h => ⟨h.1, h.2.of_eq (hb.block _ h.2.lt)⟩⟩
def paintK (c : Rc) (F : Int → Int → Px) (k : Nat) : List Px := (List.range k).map fun j => F (pxX c j) (pxY c j)
theorem paintK_len (c : Rc) (F : Int → Int → Px) (k : Nat) : (paintK c F k).length = k := by unfold paintK; rw [List.length_map, List.length_range]
theorem paintK_snoc (c : Rc) (F : Int → Int → Px) (k : Nat) : paintK c F (k + 1) = paintK c F k ++ [F (pxX c k) (pxY c k)] := by
 unfold paintK
 rw [List.range_succ, List.map_append]
 rfl
theorem paintK_all (c : Rc) (F : Int → Int → Px) : paintK c F (areaN c) = paintL c F := rfl
/-- One more pixel, told by its row and its column. -/
theorem paintK_at {c : Rc} (hf : Fits c) (F : Int → Int → Px) {i j : Nat} (hj : (j : Int) < c.x1 - c.x0) (hi : (i : Int) < c.y1 - c.y0) : i * widN c + j < areaN c ∧ paintK c F (i * widN c + (j + 1)) = paintK c F (i * widN c + j) ++ [F (c.x0 + j) (c.y0 + i)] := by
 obtain ⟨k, e, hk, ex, ey⟩ := px_xy hf hj hi
 have hw : c.x1 - c.x0 = (widN c : Int) := by unfold widN; have := hf.h1; omega
 have ek : k = i * widN c + j := by
  rw [hw] at e
  omega
 subst ek
 refine ⟨hk, ?_⟩
 rw [← Nat.add_assoc, paintK_snoc, ex, ey]
set_option maxHeartbeats 4000000 in
theorem P_painted0 (fv : Value) (c : Rc) (w : World) (hem : emptyR c = true) : Calls Tryz.prog 31 #[.agg (rcA c), fv] w fun e w' => e = .returned (.tuple #[.agg #[.slice none 0 0], .int .i64 0]) ∧ Below w.heap.size w w' := by
 have B := Below.refl w.heap.size w
 go_enter Tryz.func31, Tryz.ntmps31
 go_upto_region 0 with fail
 refine wp_region_lit ?_
 try simp only [gelS]
 (refine wpList_boxB (t := 30) rfl _ rfl _ rfl ?_; intro b_c2 wn hle hge ht hbn hzn; have hsz := B.size; replace B := B.trans (hbn.mono (by omega)); have hln := Nat.lt_of_lt_of_eq (Nat.lt_succ_self _) hzn.symm; clear hzn; have c2 := ht; clear ht; simp only [putS])
 (refine wpList_allocBk (t := 34) rfl _ (run_alloc_R _ _ rfl) ?_; intro b_r4 wn hle hge ht hbn hzn; have hsz := B.size; replace B := B.trans (hbn.mono (by omega)); have hln := Nat.lt_of_lt_of_eq (Nat.lt_succ_self _) hzn.symm; clear hzn; (try have hlt := c2.lt); (try replace c2 := c2.below (hbn.mono hle)); have r4 := ht; clear ht; simp only [putS])
 refine wpList_chunk 1 (by kernel_rfl) ?_
 simp only [takS, Nat.reduceAdd]
 repeat (first | go_big_quiet_skip | (go_big_quiet_want; go_big_quiet_op; go_big_quiet_on))
 refine wpQuiet_nil ?_
 refine wpList_nil ?_
 have k1 : b_c2 < b_r4 := by have := c2.lt; omega
 go_upto_region 1 with fail
 refine wp_region_lit ?_
 try simp only [gelS]
 refine wpList_chunk 1 (by kernel_rfl) ?_
 simp only [takS, Nat.reduceAdd]
 repeat (first | go_big_quiet_skip | (go_big_quiet_want; first | (refine quiet_loadAny (t := 30) rfl _ _ _ rfl (fun w hw => run_load_B (ov_B c2 w hw) Tryz.isAgg30 (by kernel_rfl)) (by rfl) ?_; simp only [putS]; go_big_quiet_on) | (go_big_quiet_op; go_big_quiet_on)))
 refine wpQuiet_nil ?_
 refine wpList_callF (by first | rfl | simp [Region.wanted, yielded]) rfl (enters_of Tryz.func67 (by kernel_rfl) rfl) (by simp only [Act.eval, evlS]; rfl) ?_
 refine (P_EmptyB c true _ hem).mono ?_
 rintro e wn ⟨rfl, hbn⟩
 have hsz := B.size
 have hzn := hbn.size
 replace B := B.trans (hbn.mono B.size)
 (try replace r4 := r4.below hbn)
 refine ⟨_, rfl, ?_⟩
 simp only [putS]
 refine wpList_nil ?_
 go_upto_region 2 with fail
 refine wp_region_lit ?_
 try simp only [gelS]
 refine wpList_chunk 1 (by kernel_rfl) ?_
 simp only [takS, Nat.reduceAdd]
 repeat (first | go_big_quiet_skip | (go_big_quiet_want; go_big_quiet_op; go_big_quiet_on))
 refine wpQuiet_nil ?_
 (refine wpList_storeB (t := 34) rfl _ _ rfl _ rfl _ rfl r4 (by kernel_rfl) rfl (by simp [rcA, imgC, Value.oneCell']) ?_; clear r4; intro wn ht hcn hzn; have hsz := B.size; replace hzn := Nat.le_of_eq hzn.symm; replace B := Chg.below B hcn (by omega) B.size; have r4 := ht; clear ht; simp only [putS])
 refine wpList_chunk 1 (by kernel_rfl) ?_
 simp only [takS, Nat.reduceAdd]
 repeat (first | go_big_quiet_skip | (go_big_quiet_want; go_big_quiet_op; go_big_quiet_on))
 refine wpQuiet_nil ?_
 refine wpList_nil ?_
 first | (refine bodyPost_ret (results_B2 (t := 34) rfl _ _ (b_r4) rfl _ rfl r4 Tryz.isAgg34 (by kernel_rfl)) rfl ?_) | (go_step; refine bodyPost_ret (results_B2 (t := 34) rfl _ _ (b_r4) rfl _ rfl r4 Tryz.isAgg34 (by kernel_rfl)) rfl ?_) | (go_step; go_step; refine bodyPost_ret (results_B2 (t := 34) rfl _ _ (b_r4) rfl _ rfl r4 Tryz.isAgg34 (by kernel_rfl)) rfl ?_) | (go_step; go_step; go_step; refine bodyPost_ret (results_B2 (t := 34) rfl _ _ (b_r4) rfl _ rfl r4 Tryz.isAgg34 (by kernel_rfl)) rfl ?_) | (go_step; go_step; go_step; go_step; refine bodyPost_ret (results_B2 (t := 34) rfl _ _ (b_r4) rfl _ rfl r4 Tryz.isAgg34 (by kernel_rfl)) rfl ?_) | (go_step; go_step; go_step; go_step; go_step; refine bodyPost_ret (results_B2 (t := 34) rfl _ _ (b_r4) rfl _ rfl r4 Tryz.isAgg34 (by kernel_rfl)) rfl ?_)
 exact ⟨rfl, B⟩
set_option maxHeartbeats 8000000 in
theorem P_painted1 (g : FuncId) (lb : Array Value) (eg : Go.Proofs.Enters Tryz.prog g) (c : Rc) (F : Int → Int → Px) (w : World) (hE : fitsE c = 0) (hF : ∀ x y, (F x y).ok) (hf : ∀ W, Below w.heap.size w W → ∀ x y, hasR c x y = true → Calls Tryz.prog g (#[.int .i64 x, .int .i64 y] ++ lb) W fun e w' => e = .returned (Px.v (F x y)) ∧ Below W.heap.size W w') : Calls Tryz.prog 31 #[.agg (rcA c), .func (.func g) #[] lb] w fun e w' => ∃ a cp, e = .returned (.tuple #[.agg #[.slice a (pstR c (paintL c F) []).length cp], .int .i64 (pstE c (paintL c F) [])]) ∧ RS (.slice a (pstR c (paintL c F) []).length cp) (pstR c (paintL c F) []) w' ∧ Below w.heap.size w w' := by
 have B := Below.refl w.heap.size w
 have HE := Lib.hid hE
 have HF := Lib.hid hF
 have HC := Lib.hid hf
 have hfit := fitsE_zero hE
 obtain ⟨f1, f2, f3, f4, f5, f6, f7, f8⟩ := hfit
 have HFit := Lib.hid (fitsE_zero hE)
 have hem : emptyR c = false := by rw [← Bool.not_eq_true, emptyR_iff]; omega
 have HA := Lib.hid (area_bd (fitsE_zero hE))
 have HAW := Lib.hid (area_wid (fitsE_zero hE)).1
 have hwid : (widN c : Int) = c.x1 - c.x0 := by unfold widN; omega
 clear hE hF hf
 obtain ⟨Wd, hWd⟩ : ∃ W, widN c = W := ⟨_, rfl⟩
 rw [hWd] at hwid
 have HWD := Lib.hid hWd
 clear hWd
 go_enter Tryz.func31, Tryz.ntmps31
 go_upto_region 0 with fail
 refine wp_region_lit ?_
 try simp only [gelS]
 (refine wpList_boxB (t := 30) rfl _ rfl _ rfl ?_; intro b_c2 wn hle hge ht hbn hzn; have hsz := B.size; replace B := B.trans (hbn.mono (by omega)); have hln := Nat.lt_of_lt_of_eq (Nat.lt_succ_self _) hzn.symm; clear hzn; have c2 := ht; clear ht; simp only [putS])
 (refine wpList_allocBk (t := 34) rfl _ (run_alloc_R _ _ rfl) ?_; intro b_r4 wn hle hge ht hbn hzn; have hsz := B.size; replace B := B.trans (hbn.mono (by omega)); have hln := Nat.lt_of_lt_of_eq (Nat.lt_succ_self _) hzn.symm; clear hzn; (try have hlt := c2.lt); (try replace c2 := c2.below (hbn.mono hle)); have r4 := ht; clear ht; simp only [putS])
 refine wpList_chunk 1 (by kernel_rfl) ?_
 simp only [takS, Nat.reduceAdd]
 repeat (first | go_big_quiet_skip | (go_big_quiet_want; go_big_quiet_op; go_big_quiet_on))
 refine wpQuiet_nil ?_
 refine wpList_nil ?_
 have k1 : w.heap.size ≤ b_c2 := by omega
 have k2 : b_c2 < b_r4 := by have := c2.lt; omega
 go_upto_region 1 with fail
 refine wp_region_lit ?_
 try simp only [gelS]
 refine wpList_chunk 1 (by kernel_rfl) ?_
 simp only [takS, Nat.reduceAdd]
 repeat (first | go_big_quiet_skip | (go_big_quiet_want; first | (refine quiet_loadAny (t := 30) rfl _ _ _ rfl (fun w hw => run_load_B (ov_B c2 w hw) Tryz.isAgg30 (by kernel_rfl)) (by rfl) ?_; simp only [putS]; go_big_quiet_on) | (go_big_quiet_op; go_big_quiet_on)))
 refine wpQuiet_nil ?_
 refine wpList_callF (by first | rfl | simp [Region.wanted, yielded]) rfl (enters_of Tryz.func67 (by kernel_rfl) rfl) (by simp only [Act.eval, evlS]; rfl) ?_
 refine (P_EmptyB c false _ hem).mono ?_
 rintro e wn ⟨rfl, hbn⟩
 have hsz := B.size
 have hzn := hbn.size
 replace B := B.trans (hbn.mono B.size)
 (try replace c2 := c2.below hbn)
 (try replace r4 := r4.below hbn)
 refine ⟨_, rfl, ?_⟩
 simp only [putS]
 refine wpList_nil ?_
 go_upto_region 3 with fail
 refine wp_region_lit ?_
 try simp only [gelS]
 refine wpList_chunk 2 (by kernel_rfl) ?_
 simp only [takS, Nat.reduceAdd]
 repeat (first | go_big_quiet_skip | (go_big_quiet_want; first | (refine quiet_loadAny (t := 30) rfl _ _ _ rfl (fun w hw => run_load_B (ov_B c2 w hw) Tryz.isAgg30 (by kernel_rfl)) (by rfl) ?_; simp only [putS]; go_big_quiet_on) | (refine quiet_buildIm rfl c rfl ?_; simp only [putS]; go_big_quiet_on) | (go_big_quiet_op; go_big_quiet_on)))
 refine wpQuiet_nil ?_
 (refine wpList_allocBk (t := 101) rfl _ (run_alloc_Im _ _ rfl) ?_; intro b_i6 wn hle hge ht hbn hzn; have hsz := B.size; replace B := B.trans (hbn.mono (by omega)); have hln := Nat.lt_of_lt_of_eq (Nat.lt_succ_self _) hzn.symm; clear hzn; (try have hlt := c2.lt); (try replace c2 := c2.below (hbn.mono hle)); (try have hlt := r4.lt); (try replace r4 := r4.below (hbn.mono hle)); have i6 := ht; clear ht; simp only [putS])
 (refine wpList_storeB (t := 101) rfl _ _ rfl _ rfl _ rfl i6 (by kernel_rfl) rfl (by simp [rcA, imgC, Value.oneCell']) ?_; clear i6; intro wn ht hcn hzn; have hsz := B.size; replace hzn := Nat.le_of_eq hzn.symm; replace B := Chg.below B hcn (by omega) B.size; (try replace c2 := c2.of_eq (hcn.block _ c2.lt (by omega))); (try replace r4 := r4.of_eq (hcn.block _ r4.lt (by omega))); have i6 := ht; clear ht; simp only [putS])
 refine wpList_nil ?_
 replace i6 : AtB 101 _ b_i6 (imgC c (.slice none 0 0)) := i6
 have k3 : b_r4 < b_i6 := by have := r4.lt; omega
 have k4 := i6.lt
 obtain ⟨b0, hb0⟩ : ∃ n, n = wn.heap.size := ⟨_, rfl⟩
 have k5 : b_i6 < b0 := by omega
 have k6 : b0 ≤ wn.heap.size := by omega
 have od : OwnE pxE b0 (.slice none 0 0) [] wn := OwnE.nil b0 wn
 clear hb0 k4
 go_upto_region 4 with fail
 refine wp_region_lit ?_
 try simp only [gelS]
 refine wpList_chunk 3 (by kernel_rfl) ?_
 simp only [takS, Nat.reduceAdd]
 repeat (first | go_big_quiet_skip | (go_big_quiet_want; first | (refine quiet_loadAny (t := 3) rfl _ _ _ rfl (fun w hw => run_load_int ((ov_B c2 w hw).cellL 0 rfl)) (by rfl) ?_; simp only [putS]; go_big_quiet_on) | (refine quiet_loadAny (t := 3) rfl _ _ _ rfl (fun w hw => run_load_int ((ov_B c2 w hw).cellL 1 rfl)) (by rfl) ?_; simp only [putS]; go_big_quiet_on) | (refine quiet_loadAny (t := 3) rfl _ _ _ rfl (fun w hw => run_load_int ((ov_B c2 w hw).cellL 2 rfl)) (by rfl) ?_; simp only [putS]; go_big_quiet_on) | (refine quiet_loadAny (t := 3) rfl _ _ _ rfl (fun w hw => run_load_int ((ov_B c2 w hw).cellL 3 rfl)) (by rfl) ?_; simp only [putS]; go_big_quiet_on) | (go_big_quiet_op; go_big_quiet_on)))
 refine wpQuiet_nil ?_
 refine wpList_nil ?_
 go_wp2
 go_loopw [7, 8] (fun yv _ wr => ∃ (i cp : Nat) (ad : Option Addr) (P : List Px), (i : Int) ≤ c.y1 - c.y0 ∧ yv = .int .i64 (c.y0 + (i : Int)) ∧ Hid (paintK c F (i * Wd) = P) ∧ Below w.heap.size w wr ∧ b0 ≤ wr.heap.size ∧ AtB 30 wr b_c2 (rcA c) ∧ AtB 34 wr b_r4 #[.slice none 0 0] ∧ AtB 101 wr b_i6 (imgC c (.slice ad P.length cp)) ∧ OwnE pxE b0 (.slice ad P.length cp) P wr) (fun yv _ _ => (c.y1 - intOf yv).toNat)
 case atStart => exact ⟨0, 0, none, [], by omega, by rw [Int.natCast_zero, Int.add_zero], Lib.hid (by rw [Nat.zero_mul]; rfl), B, k6, c2, r4, i6, od⟩
 case round =>
  clear B c2 r4 i6 od k6
  obtain ⟨i, cp, ad, P, hi, rfl, HP, B, k6, c2, r4, i6, od⟩ := hrel
  by_cases hi1 : (i : Int) < c.y1 - c.y0
  ·have q1 : decide (c.y0 + (i : Int) < c.y1) = true := decide_eq_true (by omega)
   go_upto_region 5 with fail
   refine wp_region_lit ?_
   try simp only [gelS]
   refine wpList_chunk 4 (by kernel_rfl) ?_
   simp only [takS, Nat.reduceAdd]
   repeat (first | go_big_quiet_skip | (go_big_quiet_want; first | (refine quiet_loadAny (t := 3) rfl _ _ _ rfl (fun w hw => run_load_int ((ov_B c2 w hw).cellL 0 rfl)) (by rfl) ?_; simp only [putS]; go_big_quiet_on) | (refine quiet_loadAny (t := 3) rfl _ _ _ rfl (fun w hw => run_load_int ((ov_B c2 w hw).cellL 1 rfl)) (by rfl) ?_; simp only [putS]; go_big_quiet_on) | (refine quiet_loadAny (t := 3) rfl _ _ _ rfl (fun w hw => run_load_int ((ov_B c2 w hw).cellL 2 rfl)) (by rfl) ?_; simp only [putS]; go_big_quiet_on) | (refine quiet_loadAny (t := 3) rfl _ _ _ rfl (fun w hw => run_load_int ((ov_B c2 w hw).cellL 3 rfl)) (by rfl) ?_; simp only [putS]; go_big_quiet_on) | (go_big_quiet_op; go_big_quiet_on)))
   refine wpQuiet_nil ?_
   refine wpList_nil ?_
   go_upto_region 7 with fail
   refine wp_region_lit ?_
   try simp only [gelS]
   refine wpList_chunk 3 (by kernel_rfl) ?_
   simp only [takS, Nat.reduceAdd]
   repeat (first | go_big_quiet_skip | (go_big_quiet_want; first | (refine quiet_loadAny (t := 3) rfl _ _ _ rfl (fun w hw => run_load_int ((ov_B c2 w hw).cellL 0 rfl)) (by rfl) ?_; simp only [putS]; go_big_quiet_on) | (refine quiet_loadAny (t := 3) rfl _ _ _ rfl (fun w hw => run_load_int ((ov_B c2 w hw).cellL 1 rfl)) (by rfl) ?_; simp only [putS]; go_big_quiet_on) | (refine quiet_loadAny (t := 3) rfl _ _ _ rfl (fun w hw => run_load_int ((ov_B c2 w hw).cellL 2 rfl)) (by rfl) ?_; simp only [putS]; go_big_quiet_on) | (refine quiet_loadAny (t := 3) rfl _ _ _ rfl (fun w hw => run_load_int ((ov_B c2 w hw).cellL 3 rfl)) (by rfl) ?_; simp only [putS]; go_big_quiet_on) | (go_big_quiet_op; go_big_quiet_on)))
   refine wpQuiet_nil ?_
   refine wpList_nil ?_
   go_wp2
   go_loopw [8] (fun xv wr => ∃ (j cp : Nat) (ad : Option Addr) (P : List Px), (j : Int) ≤ c.x1 - c.x0 ∧ xv = .int .i64 (c.x0 + (j : Int)) ∧ Hid (paintK c F (i * Wd + j) = P) ∧ Below w.heap.size w wr ∧ b0 ≤ wr.heap.size ∧ AtB 30 wr b_c2 (rcA c) ∧ AtB 34 wr b_r4 #[.slice none 0 0] ∧ AtB 101 wr b_i6 (imgC c (.slice ad P.length cp)) ∧ OwnE pxE b0 (.slice ad P.length cp) P wr) (fun xv _ => (c.x1 - intOf xv).toNat)
   case atStart => exact ⟨0, cp, ad, P, by omega, by rw [Int.natCast_zero, Int.add_zero], Lib.hid HP.out, B, k6, c2, r4, i6, od⟩
   case round =>
    clear B c2 r4 i6 od k6
    obtain ⟨j, cp2, ad2, P2, hj, rfl, HP2, B, k6, c2, r4, i6, od⟩ := hrel
    by_cases hj1 : (j : Int) < c.x1 - c.x0
    ·have q2 : decide (c.x0 + (j : Int) < c.x1) = true := decide_eq_true (by omega)
     have hat := paintK_at HFit.out F (i := i) (j := j) hj1 hi1
     rw [HWD.out, HP2.out] at hat
     have hlen : P2.length < 65536 := by rw [← HP2.out, paintK_len]; have := HA.out; omega
     have HST := Lib.hid hat.2
     clear hat
     have HX := Lib.hid (fun W hW => HC.out W hW (c.x0 + (j : Int)) (c.y0 + (i : Int)) ((hasR_iff _ _ _).2 (by omega)))
     have okp := HF.out (c.x0 + (j : Int)) (c.y0 + (i : Int))
     generalize F (c.x0 + (j : Int)) (c.y0 + (i : Int)) = pp at *
     go_upto_region 8 with fail
     refine wp_region_lit ?_
     try simp only [gelS]
     refine wpList_chunk 4 (by kernel_rfl) ?_
     simp only [takS, Nat.reduceAdd]
     repeat (first | go_big_quiet_skip | (go_big_quiet_want; first | (refine quiet_loadAny (t := 3) rfl _ _ _ rfl (fun w hw => run_load_int ((ov_B c2 w hw).cellL 0 rfl)) (by rfl) ?_; simp only [putS]; go_big_quiet_on) | (refine quiet_loadAny (t := 3) rfl _ _ _ rfl (fun w hw => run_load_int ((ov_B c2 w hw).cellL 1 rfl)) (by rfl) ?_; simp only [putS]; go_big_quiet_on) | (refine quiet_loadAny (t := 3) rfl _ _ _ rfl (fun w hw => run_load_int ((ov_B c2 w hw).cellL 2 rfl)) (by rfl) ?_; simp only [putS]; go_big_quiet_on) | (refine quiet_loadAny (t := 3) rfl _ _ _ rfl (fun w hw => run_load_int ((ov_B c2 w hw).cellL 3 rfl)) (by rfl) ?_; simp only [putS]; go_big_quiet_on) | (go_big_quiet_op; go_big_quiet_on)))
     refine wpQuiet_nil ?_
     refine wpList_nil ?_
     go_upto_region 10 with fail
     try simp only [gelS]
     try have lx_c2 := c2.lt
     try have lx_r4 := r4.lt
     try have lx_i6 := i6.lt
     try have lx_od := od.lt
     refine wp_region_RL 7 [(5, detS ?v1_5), (6, bsP1 (wr.heap.size) 25 (pxE.enc pp))] (by kernel_rfl) (by kernel_rfl) (by kernel_rfl) ?_
     rotate_left 1
     simp only [takS, Nat.reduceAdd]
     refine wpRL_chunk 5 (by kernel_rfl) ?_
     simp only [takS, Nat.reduceAdd]
     repeat (first | go_big_quiet_skip | (go_big_quiet_want; first | (refine quiet_loadAny (t := 99) rfl _ _ _ rfl (fun w hw => run_load_slp (imgC_u (ov_B i6 w hw))) (by first | rfl | omega) ?_; simp only [putS]; go_big_quiet_on) | (go_big_quiet_op; go_big_quiet_on)))
     refine wpQuiet_nil ?_
     refine wpRL_callB (by rfl) (by first | rfl | simp [Region.wanted, yielded]) ?_ ?_
     ·intro wn hbn hE Kx hKx
      have hsz := B.size
      have hzn := hbn.size
      replace B := B.trans (hbn.mono B.size)
      (try replace c2 := c2.below hbn)
      (try replace r4 := r4.below hbn)
      (try replace i6 := i6.below hbn)
      (try replace od := od.below hbn)
      refine wp_callV rfl (by simp only [Act.eval, evlS]; rfl) eg (by simp only [Act.eval, evlS]; rfl) ?_
      refine (HX.out wn B).mono ?_
      rintro e wm ⟨rfl, hbm⟩
      refine ⟨_, rfl, ?_⟩
      have hz := hKx () wm trivial hbm
      dsimp only [detS] at hz
      exact hz
     rintro ⟨⟩
     dsimp only [detS]
     simp only [putS]
     refine wpRL_callB (by rfl) (by first | rfl | simp [Region.wanted, yielded]) ?_ ?_
     ·intro wn hbn hE Kx hKx
      have hsz := B.size
      have hzn := hbn.size
      replace B := B.trans (hbn.mono B.size)
      (try replace c2 := c2.below hbn)
      (try replace r4 := r4.below hbn)
      (try replace i6 := i6.below hbn)
      (try replace od := od.below hbn)
      refine owp_bs1E (E := pxE) _ rfl pp rfl (by omega) ?_
      intro b wm h1 h2 ht hbm hzm
      exact hKx b wm ⟨Nat.le_trans hbn.size h1, ht⟩ (hbm.mono h1)
     rintro b_s36
     dsimp only [detS, bsP1]
     simp only [putS]
     refine wpRL_nil ?_
     intro wn hbn hE
     have hsz := B.size
     have hzn := hbn.size
     replace B := B.trans (hbn.mono B.size)
     (try replace c2 := c2.below hbn)
     (try replace r4 := r4.below hbn)
     (try replace i6 := i6.below hbn)
     (try replace od := od.below hbn)
     obtain ⟨hge_s36, s36⟩ : _ ∧ AtB _ _ _ _ := hE 6
     clear hE
     try simp only [List.drop_succ_cons, List.drop_zero]
     go_wp2_with (first | (refine wpList_storeU rfl _ _ rfl _ rfl _ _ _ rfl i6 ?_; clear i6; intro wn ht hcn hzn; have hsz := B.size; replace hzn := Nat.le_of_eq hzn.symm; replace B := Chg.below B hcn (by omega) B.size; (try replace c2 := c2.of_eq (hcn.block _ c2.lt (by omega))); (try replace r4 := r4.of_eq (hcn.block _ r4.lt (by omega))); replace od := od.chg hcn (by omega); have i6 := ht; clear ht; simp only [putS]) | (at_builtin; refine wpList_appendE rfl _ _ rfl _ _ rfl rfl od ((RSE.one s36)) (by simp only [List.length_append, List.length_cons, List.length_nil]; omega) (by omega) ?_; intro v_od wn ht hbn; have hsz := B.size; have hbz := hbn.size; replace B := B.trans (hbn.mono (by omega)); clear od; (try replace c2 := c2.of_eq (hbn.block _ (by omega))); (try replace r4 := r4.of_eq (hbn.block _ (by omega))); (try replace i6 := i6.of_eq (hbn.block _ (by omega))); have od := ht; clear ht; obtain ⟨a_od, c_od, hv, hco⟩ := od.len; (try simp only [List.length_append, List.length_cons, List.length_nil, Nat.zero_add] at hv hco); subst hv; simp only [putS]) | fail)
     refine NoPan.normal ?_
     go_upto_region 9 with fail
     refine wp_region_lit ?_
     try simp only [gelS]
     refine wpList_chunk 3 (by kernel_rfl) ?_
     simp only [takS, Nat.reduceAdd]
     repeat (first | go_big_quiet_skip | (go_big_quiet_want; go_big_quiet_op; go_big_quiet_on))
     refine wpQuiet_nil ?_
     refine wpList_nil ?_
     go_wp2
     go_roundw
     case rel => exact ⟨j + 1, _, _, P2 ++ [pp], by omega, by go_num, HST, B, by omega, c2, r4, by rw [List.length_append]; exact i6, by rw [List.length_append]; exact od⟩
     case measure => simp [intOf]; omega
    ·have q2 : decide (c.x0 + (j : Int) < c.x1) = false := decide_eq_false (by omega)
     have hjW : j = Wd := by omega
     have HN := Lib.hid (show paintK c F ((i + 1) * Wd) = P2 from by rw [Nat.add_mul, Nat.one_mul]; rw [hjW] at HP2; exact HP2.out)
     clear hjW
     go_upto_region 8 with fail
     refine wp_region_lit ?_
     try simp only [gelS]
     refine wpList_chunk 4 (by kernel_rfl) ?_
     simp only [takS, Nat.reduceAdd]
     repeat (first | go_big_quiet_skip | (go_big_quiet_want; first | (refine quiet_loadAny (t := 3) rfl _ _ _ rfl (fun w hw => run_load_int ((ov_B c2 w hw).cellL 0 rfl)) (by rfl) ?_; simp only [putS]; go_big_quiet_on) | (refine quiet_loadAny (t := 3) rfl _ _ _ rfl (fun w hw => run_load_int ((ov_B c2 w hw).cellL 1 rfl)) (by rfl) ?_; simp only [putS]; go_big_quiet_on) | (refine quiet_loadAny (t := 3) rfl _ _ _ rfl (fun w hw => run_load_int ((ov_B c2 w hw).cellL 2 rfl)) (by rfl) ?_; simp only [putS]; go_big_quiet_on) | (refine quiet_loadAny (t := 3) rfl _ _ _ rfl (fun w hw => run_load_int ((ov_B c2 w hw).cellL 3 rfl)) (by rfl) ?_; simp only [putS]; go_big_quiet_on) | (go_big_quiet_op; go_big_quiet_on)))
     refine wpQuiet_nil ?_
     refine wpList_nil ?_
     go_upto_region 6 with fail
     refine wp_region_lit ?_
     try simp only [gelS]
     refine wpList_chunk 3 (by kernel_rfl) ?_
     simp only [takS, Nat.reduceAdd]
     repeat (first | go_big_quiet_skip | (go_big_quiet_want; go_big_quiet_op; go_big_quiet_on))
     refine wpQuiet_nil ?_
     refine wpList_nil ?_
     go_wp2
     go_roundw
     case rel => exact ⟨i + 1, _, _, P2, by omega, by go_num, HN, B, k6, c2, r4, i6, od⟩
     case measure => simp [intOf]; omega
  ·have q1 : decide (c.y0 + (i : Int) < c.y1) = false := decide_eq_false (by omega)
   have hiH : i = (c.y1 - c.y0).toNat := by omega
   have HL := Lib.hid (show paintL c F = P from by
    rw [← paintK_all, HAW.out, Nat.mul_comm, HWD.out, ← hiH]; exact HP.out)
   have hlen : P.length ≤ maxLen := by rw [← HL.out, paintL_len]; have := HA.out; unfold maxLen; omega
   have okP : OkL P := by rw [← HL.out]; exact paintL_ok HF.out
   clear hiH
   go_upto_region 5 with fail
   refine wp_region_lit ?_
   try simp only [gelS]
   refine wpList_chunk 4 (by kernel_rfl) ?_
   simp only [takS, Nat.reduceAdd]
   repeat (first | go_big_quiet_skip | (go_big_quiet_want; first | (refine quiet_loadAny (t := 3) rfl _ _ _ rfl (fun w hw => run_load_int ((ov_B c2 w hw).cellL 0 rfl)) (by rfl) ?_; simp only [putS]; go_big_quiet_on) | (refine quiet_loadAny (t := 3) rfl _ _ _ rfl (fun w hw => run_load_int ((ov_B c2 w hw).cellL 1 rfl)) (by rfl) ?_; simp only [putS]; go_big_quiet_on) | (refine quiet_loadAny (t := 3) rfl _ _ _ rfl (fun w hw => run_load_int ((ov_B c2 w hw).cellL 2 rfl)) (by rfl) ?_; simp only [putS]; go_big_quiet_on) | (refine quiet_loadAny (t := 3) rfl _ _ _ rfl (fun w hw => run_load_int ((ov_B c2 w hw).cellL 3 rfl)) (by rfl) ?_; simp only [putS]; go_big_quiet_on) | (go_big_quiet_op; go_big_quiet_on)))
   refine wpQuiet_nil ?_
   refine wpList_nil ?_
   go_upto_region 11 with fail
   refine wp_region_lit ?_
   try simp only [gelS]
   refine wpList_chunk 2 (by kernel_rfl) ?_
   simp only [takS, Nat.reduceAdd]
   repeat (first | go_big_quiet_skip | (go_big_quiet_want; first | (refine quiet_loadAny (t := 101) rfl _ _ _ rfl (fun w hw => run_load_img (ov_B i6 w hw)) (by first | rfl | omega) ?_; simp only [putS]; go_big_quiet_on) | (go_big_quiet_op; go_big_quiet_on)))
   refine wpQuiet_nil ?_
   refine wpList_callF (by first | rfl | simp [Region.wanted, yielded]) rfl (enters_of Tryz.func68 (by kernel_rfl) rfl) (by simp only [Act.eval, evlS]; rfl) ?_
   refine (P_PasteA _ [] c _ P _ (RS.nil _) TokL.nil (by unfold maxLen; simp) od.rs hlen okP).mono ?_
   rintro e wn ⟨a5, c5, rfl, rs5, hbn⟩
   have hsz := B.size
   have hzn := hbn.size
   replace B := B.trans (hbn.mono B.size)
   (try replace r4 := r4.below hbn)
   refine ⟨_, rfl, ?_⟩
   simp only [putS]
   refine wpList_chunk 2 (by kernel_rfl) ?_
   simp only [takS, Nat.reduceAdd]
   repeat (first | go_big_quiet_skip | (go_big_quiet_want; go_big_quiet_op; go_big_quiet_on))
   refine wpQuiet_nil ?_
   (refine wpList_storeB (t := 34) rfl _ _ rfl _ rfl _ rfl r4 (by kernel_rfl) rfl (by simp [rcA, imgC, Value.oneCell']) ?_; have r4o := r4; clear r4; intro wn ht hcn hzn; replace rs5 := rs5.chg r4o (by simp [rcA]) hcn; have hsz := B.size; replace hzn := Nat.le_of_eq hzn.symm; replace B := Chg.below B hcn (by omega) B.size; have r4 := ht; clear ht; simp only [putS])
   refine wpList_chunk 1 (by kernel_rfl) ?_
   simp only [takS, Nat.reduceAdd]
   repeat (first | go_big_quiet_skip | (go_big_quiet_want; go_big_quiet_op; go_big_quiet_on))
   refine wpQuiet_nil ?_
   refine wpList_nil ?_
   first | (refine bodyPost_ret (results_B2 (t := 34) rfl _ _ (b_r4) rfl _ rfl r4 Tryz.isAgg34 (by kernel_rfl)) rfl ?_) | (go_step; refine bodyPost_ret (results_B2 (t := 34) rfl _ _ (b_r4) rfl _ rfl r4 Tryz.isAgg34 (by kernel_rfl)) rfl ?_) | (go_step; go_step; refine bodyPost_ret (results_B2 (t := 34) rfl _ _ (b_r4) rfl _ rfl r4 Tryz.isAgg34 (by kernel_rfl)) rfl ?_) | (go_step; go_step; go_step; refine bodyPost_ret (results_B2 (t := 34) rfl _ _ (b_r4) rfl _ rfl r4 Tryz.isAgg34 (by kernel_rfl)) rfl ?_) | (go_step; go_step; go_step; go_step; refine bodyPost_ret (results_B2 (t := 34) rfl _ _ (b_r4) rfl _ rfl r4 Tryz.isAgg34 (by kernel_rfl)) rfl ?_) | (go_step; go_step; go_step; go_step; go_step; refine bodyPost_ret (results_B2 (t := 34) rfl _ _ (b_r4) rfl _ rfl r4 Tryz.isAgg34 (by kernel_rfl)) rfl ?_)
   rw [HL.out]
   exact ⟨_, _, rfl, rs5, B⟩
/- Fill, Inverse of package selection: their closures, of, large; the reference's Small. -/
theorem run_alloc_Pxx (w : World) (o : Oper) (ho : o.op = .alloc 25) (ev : Operand → Value) : (execOp ev o).run Tryz.prog w = .ok (.value (.pointer (some ⟨w.heap.size, 0, none⟩))) (w.alloc (.cells #[.int .u8 0, .int .u8 0, .int .u8 0, .int .u8 0] 25)) := by
 obtain ⟨d, p, t, ps, af, gd⟩ := o
 simp only at ho
 subst ho
 kernel_rfl
theorem run_load_spw {w : World} {b j : Nat} {v : Value} (h : w.cell? ⟨b, j, none⟩ = some v) : (Instr.loadAt 22 (.pointer (some ⟨b, j, none⟩))).run Tryz.prog w = .ok v w := by
 simp [go_sem, h]
def pxC4 (p : Px) : Array Value := #[.int .u8 p.r, .int .u8 p.g, .int .u8 p.b, .int .u8 p.a]
theorem P_FadeO (q r : Px) (c : Int) (w : World) (hq : q.ok) (e : fadeP q c = r) : Calls Tryz.prog 33 #[.agg (pxC4 q), .int .i64 c] w fun e w' => e = .returned (.agg (pxC4 r)) ∧ Below w.heap.size w w' := e ▸ P_Fade q c w hq
theorem P_coverO (v : Value) (l : List Pnt) (x y n : Int) (w : World) (h : RSE ptE v l w) (hn : l.length ≤ 17592186044416) (hnear : nearL l) (hx : -70000 ≤ x ∧ x ≤ 70000) (hy : -70000 ≤ y ∧ y ≤ 70000) (e : covG l x y = n) : Calls Tryz.prog 34 #[v, .int .i64 x, .int .i64 y] w fun e w' => e = .returned (.int .i64 n) ∧ Below w.heap.size w w' := e ▸ P_cover v l x y w h hn hnear hx hy
set_option maxHeartbeats 2000000 in
theorem P_fill1 (k2 k3 : Nat) (p : Px) (v : Value) (l : List Pnt) (x y : Int) (w : World) (b2 : AtB 22 w k2 #[v]) (b3 : AtB 25 w k3 (pxC4 p)) (rs : RSE ptE v l w) (hp : p.ok) (hn : l.length ≤ 17592186044416) (hnear : nearL l) (hx : -70000 ≤ x ∧ x ≤ 70000) (hy : -70000 ≤ y ∧ y ≤ 70000) : Calls Tryz.prog 32 #[.int .i64 x, .int .i64 y, .pointer (some ⟨k3, 0, none⟩), .pointer (some ⟨k2, 0, none⟩)] w fun e w' => e = .returned (.agg (pxC4 (fadeP p (covG l x y)))) ∧ Below w.heap.size w w' := by
 have B := Below.refl w.heap.size w
 obtain ⟨n, hn0⟩ : ∃ n, covG l x y = n := ⟨_, rfl⟩
 obtain ⟨q, hq0⟩ : ∃ q, fadeP p n = q := ⟨_, rfl⟩
 rw [hn0, hq0]
 have HN0 := Lib.hid hn0
 have HQ0 := Lib.hid hq0
 have HP := Lib.hid hp
 have HNE := Lib.hid hnear
 clear hn0 hq0 hp hnear
 obtain ⟨a, c, rfl, hc⟩ := rs.len
 go_enter Tryz.func32, Tryz.ntmps32
 go_upto_region 0 with fail
 refine wp_region_lit ?_
 try simp only [gelS]
 (refine wpList_allocBk (t := 25) rfl _ (run_alloc_Pxx _ _ rfl) ?_; intro b_r6 wn hle hge ht hbn hzn; have hsz := B.size; replace B := B.trans (hbn.mono (by omega)); have hln := Nat.lt_of_lt_of_eq (Nat.lt_succ_self _) hzn.symm; clear hzn; (try have hlt := b2.lt); (try replace b2 := b2.below (hbn.mono hle)); (try have hlt := b3.lt); (try replace b3 := b3.below (hbn.mono hle)); (try have hlt := rs.lt); (try replace rs := rs.below (hbn.mono hle)); have r6 := ht; clear ht; simp only [putS])
 refine wpList_nil ?_
 go_upto_region 1 with fail
 try simp only [gelS]
 try have lx_b2 := b2.lt
 try have lx_b3 := b3.lt
 try have lx_r6 := r6.lt
 try have lx_rs := rs.lt
 refine wp_region_RL 6 [(4, detS ?v1_4), (5, detS ?v1_5)] (by kernel_rfl) (by kernel_rfl) (by kernel_rfl) ?_
 rotate_left 2
 simp only [takS, Nat.reduceAdd]
 refine wpRL_chunk 4 (by kernel_rfl) ?_
 simp only [takS, Nat.reduceAdd]
 repeat (first | go_big_quiet_skip | (go_big_quiet_want; first | (refine quiet_loadAny (t := 22) rfl _ _ _ rfl (fun w hw => run_load_spw ((ov_B b2 w hw).cell 0 rfl)) (by rfl) ?_; simp only [putS]; go_big_quiet_on) | (refine quiet_loadAny (t := 25) rfl _ _ _ rfl (fun w hw => run_load_B (ov_B b3 w hw) Tryz.isAgg25 (by kernel_rfl)) (by rfl) ?_; simp only [putS]; go_big_quiet_on) | (go_big_quiet_op; go_big_quiet_on)))
 refine wpQuiet_nil ?_
 refine wpRL_callB (by rfl) (by first | rfl | simp [Region.wanted, yielded]) ?_ ?_
 ·intro wn hbn hE Kx hKx
  have hsz := B.size
  have hzn := hbn.size
  replace B := B.trans (hbn.mono B.size)
  (try replace r6 := r6.below hbn)
  (try replace rs := rs.below hbn)
  refine wp_callF rfl (enters_of Tryz.func34 (by kernel_rfl) rfl) (by simp only [Act.eval, evlS]; rfl) ?_
  refine (P_coverO _ l x y n wn rs hn HNE.out hx hy HN0.out).mono ?_
  rintro e wm ⟨rfl, hbm⟩
  refine ⟨_, rfl, ?_⟩
  have hz := hKx () wm trivial hbm
  dsimp only [detS] at hz
  exact hz
 rintro ⟨⟩
 dsimp only [detS]
 simp only [putS]
 refine wpRL_callB (by rfl) (by first | rfl | simp [Region.wanted, yielded]) ?_ ?_
 ·intro wn hbn hE Kx hKx
  have hsz := B.size
  have hzn := hbn.size
  replace B := B.trans (hbn.mono B.size)
  (try replace r6 := r6.below hbn)
  refine wp_callF rfl (enters_of Tryz.func33 (by kernel_rfl) rfl) (by simp only [Act.eval, evlS]; rfl) ?_
  refine (P_FadeO p q n wn HP.out HQ0.out).mono ?_
  rintro e wm ⟨rfl, hbm⟩
  refine ⟨_, rfl, ?_⟩
  have hz := hKx () wm trivial hbm
  dsimp only [detS] at hz
  exact hz
 rintro ⟨⟩
 dsimp only [detS]
 simp only [putS]
 refine wpRL_nil ?_
 intro wn hbn hE
 have hsz := B.size
 have hzn := hbn.size
 replace B := B.trans (hbn.mono B.size)
 (try replace r6 := r6.below hbn)
 clear hE
 try simp only [List.drop_succ_cons, List.drop_zero]
 go_wp2_with (first | (refine wpList_storeB (t := 25) rfl _ _ rfl _ rfl _ rfl r6 (by kernel_rfl) rfl (by simp [rcA, pxC4, Value.oneCell']) ?_; clear r6; intro wn ht hcn hzn; have hsz := B.size; replace hzn := Nat.le_of_eq hzn.symm; replace B := Chg.below B hcn (by omega) B.size; have r6 := ht; clear ht; simp only [putS]) | fail)
 refine NoPan.normal ?_
 go_wp2
 refine bodyPost_ret (results_B (t := 25) rfl _ _ (b_r6) rfl r6 Tryz.isAgg25 (by kernel_rfl)) rfl ?_
 exact ⟨rfl, B⟩
def largeR (c : Rc) : Bool := decide (256 < c.x1 - c.x0) || decide (256 < c.y1 - c.y0)
set_option maxHeartbeats 2000000 in
theorem P_large (c : Rc) (w : World) (h : -100000 ≤ c.x0 ∧ c.x0 ≤ 100000 ∧ -100000 ≤ c.y0 ∧ c.y0 ≤ 100000 ∧ -100000 ≤ c.x1 ∧ c.x1 ≤ 100000 ∧ -100000 ≤ c.y1 ∧ c.y1 ≤ 100000) : Calls Tryz.prog 30 #[.agg (rcA c)] w fun e w' => e = .returned (.bool (largeR c)) ∧ Below w.heap.size w w' := by
 have B := Below.refl w.heap.size w
 obtain ⟨c0, c1, c2, c3⟩ := c
 simp only at h
 obtain ⟨h1, h2, h3, h4, h5, h6, h7, h8⟩ := h
 unfold largeR
 dsimp only
 by_cases g1 : 256 < c2 - c0
 ·have q1 : decide (256 < c2 - c0) = true := decide_eq_true g1
  rw [q1]
  go_enter Tryz.func30, Tryz.ntmps30
  go_upto_region 0 with fail
  refine wp_region_lit ?_
  try simp only [gelS]
  (refine wpList_boxB (t := 30) rfl _ rfl _ rfl ?_; intro b_r1 wn hle hge ht hbn hzn; have hsz := B.size; replace B := B.trans (hbn.mono (by omega)); have hln := Nat.lt_of_lt_of_eq (Nat.lt_succ_self _) hzn.symm; clear hzn; have r1 := ht; clear ht; simp only [putS])
  refine wpList_chunk 1 (by kernel_rfl) ?_
  simp only [takS, Nat.reduceAdd]
  repeat (first | go_big_quiet_skip | (go_big_quiet_want; go_big_quiet_op; go_big_quiet_on))
  refine wpQuiet_nil ?_
  refine wpList_nil ?_
  go_upto_region 1 with fail
  refine wp_region_lit ?_
  try simp only [gelS]
  refine wpList_chunk 15 (by kernel_rfl) ?_
  simp only [takS, Nat.reduceAdd]
  repeat (first | go_big_quiet_skip | (go_big_quiet_want; first | (refine quiet_loadAny (t := 3) rfl _ _ _ rfl (fun w hw => run_load_int ((ov_B r1 w hw).cellL 0 rfl)) (by rfl) ?_; simp only [putS]; go_big_quiet_on) | (refine quiet_loadAny (t := 3) rfl _ _ _ rfl (fun w hw => run_load_int ((ov_B r1 w hw).cellL 1 rfl)) (by rfl) ?_; simp only [putS]; go_big_quiet_on) | (refine quiet_loadAny (t := 3) rfl _ _ _ rfl (fun w hw => run_load_int ((ov_B r1 w hw).cellL 2 rfl)) (by rfl) ?_; simp only [putS]; go_big_quiet_on) | (refine quiet_loadAny (t := 3) rfl _ _ _ rfl (fun w hw => run_load_int ((ov_B r1 w hw).cellL 3 rfl)) (by rfl) ?_; simp only [putS]; go_big_quiet_on) | (go_big_quiet_op; go_big_quiet_on)))
  refine wpQuiet_nil ?_
  refine wpList_nil ?_
  go_wp2
  go_ret
  exact ⟨rfl, B⟩
 ·have q1 : decide (256 < c2 - c0) = false := decide_eq_false g1
  rw [q1]
  go_enter Tryz.func30, Tryz.ntmps30
  go_upto_region 0 with fail
  refine wp_region_lit ?_
  try simp only [gelS]
  (refine wpList_boxB (t := 30) rfl _ rfl _ rfl ?_; intro b_r1 wn hle hge ht hbn hzn; have hsz := B.size; replace B := B.trans (hbn.mono (by omega)); have hln := Nat.lt_of_lt_of_eq (Nat.lt_succ_self _) hzn.symm; clear hzn; (try have hlt := r1.lt); (try replace r1 := r1.below (hbn.mono hle)); have r1 := ht; clear ht; simp only [putS])
  refine wpList_chunk 1 (by kernel_rfl) ?_
  simp only [takS, Nat.reduceAdd]
  repeat (first | go_big_quiet_skip | (go_big_quiet_want; go_big_quiet_op; go_big_quiet_on))
  refine wpQuiet_nil ?_
  refine wpList_nil ?_
  go_upto_region 1 with fail
  refine wp_region_lit ?_
  try simp only [gelS]
  refine wpList_chunk 15 (by kernel_rfl) ?_
  simp only [takS, Nat.reduceAdd]
  repeat (first | go_big_quiet_skip | (go_big_quiet_want; first | (refine quiet_loadAny (t := 3) rfl _ _ _ rfl (fun w hw => run_load_int ((ov_B r1 w hw).cellL 0 rfl)) (by rfl) ?_; simp only [putS]; go_big_quiet_on) | (refine quiet_loadAny (t := 3) rfl _ _ _ rfl (fun w hw => run_load_int ((ov_B r1 w hw).cellL 1 rfl)) (by rfl) ?_; simp only [putS]; go_big_quiet_on) | (refine quiet_loadAny (t := 3) rfl _ _ _ rfl (fun w hw => run_load_int ((ov_B r1 w hw).cellL 2 rfl)) (by rfl) ?_; simp only [putS]; go_big_quiet_on) | (refine quiet_loadAny (t := 3) rfl _ _ _ rfl (fun w hw => run_load_int ((ov_B r1 w hw).cellL 3 rfl)) (by rfl) ?_; simp only [putS]; go_big_quiet_on) | (go_big_quiet_op; go_big_quiet_on)))
  refine wpQuiet_nil ?_
  refine wpList_nil ?_
  go_wp2
  go_ret
  exact ⟨by first | rfl | simp, B⟩
theorem P_largeO (c : Rc) (b : Bool) (w : World) (h : -100000 ≤ c.x0 ∧ c.x0 ≤ 100000 ∧ -100000 ≤ c.y0 ∧ c.y0 ≤ 100000 ∧ -100000 ≤ c.x1 ∧ c.x1 ≤ 100000 ∧ -100000 ≤ c.y1 ∧ c.y1 ≤ 100000) (e : largeR c = b) : Calls Tryz.prog 30 #[.agg (rcA c)] w fun e w' => e = .returned (.bool b) ∧ Below w.heap.size w w' := e ▸ P_large c w h
/-! ### Inverse -/
def invR (r : Rc) (ls : List TA) : List TA := if fitsE r = 0 then invL r ls else []
def smR (a b c d : Int) : Rc := ⟨a % 40 - 20, b % 40 - 20, a % 40 - 20 + c % 40, b % 40 - 20 + d % 40⟩
end Go.Proofs.YtamgpfblhlfhaaaGreat
