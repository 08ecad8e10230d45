/- StrokeHalves: for every generated raster and stroke and every inner point, painting the two halves one after the other paints the same as the stroke: the law returns true for every input, and its arguments read as they did; what the listed variable holds is tied to the program's text. No other condition. -/
import Derived.Test.YtepelndbbhdofaaGreatDoorKh5
import Derived.SizedLaws
import Derived.ChangeSlices
import Derived.Test.YtepelndbbhdofaaGreatDoorTie
import Derived.Test.YtepelndbbhdofaaGreatDoorCards
import Derived.ProofKit
import Derived.OpenShut
import Derived.LaidMore
import Derived.Stop.Joined
import Derived.Stop.LaidErr
import Derived.Lib.LaidTab
import Derived.Lib.SmallJoins
import Derived.SevenTiedAt

/- Contract of Paint of package stroke. -/
namespace Go.Proofs.YtepelndbbhdofaaGreatDoor
open Go.RowKit Go.Shelf Pl
attribute [local go_sem] Oper.semAt_some
set_option linter.unusedVariables false
set_option linter.unusedSimpArgs false
set_option maxRecDepth 20000
section
variable {F : Fence} {n : Nat} {P : Program}
/-- As rangeFunc_O, where the body may return. -/
theorem J8 {α : Type} {g : Operand} {ps : Array Tmp} {assign body : Code} {Q : Exit → Act → World → Prop} {a : Act} {w : World}
  (hro : F.round = none) (h1 : 1 ≤ n) {gf : Nat} {lb : Array Value} (hg : a.eval g = .func (.func gf) #[] lb) (hFg : F.fn gf) (eg : ∀ args w, (callFunc gf args).run P w = .ok (.enter gf args) w)
  {encs : α → Array Value} {Kp : World → World → Prop} {S Sp : List α → Prop} {N : Nat} {w0 : World} (hseq : uP F (n - 1) P gf lb encs Kp S Sp N w0)
  (hKt : ∀ {A B C : World}, Kp A B → Kp B C → Kp A C) (hKb : ∀ (W : World) (l : Nat) (o o' : Obj), w.heap.size ≤ l → W.heap[l]? = some o → o.isCells = false → o.isWalk = false → Kp W (W.putObj l o'))
  (hKg : ∀ (A B : World), Below A.heap.size A B → Kp A B) (hb0 : Below w0.heap.size w0 w) (hps : ∀ x, (encs x).size = ps.size)
  (I Ix : List α → World → Prop) (hI0 : zak w.heap.size I) (hX0 : zak w.heap.size Ix) (h0 : I [] w) (As : α → Act → World → Prop) (hAs : ∀ x, OwnFrom w.heap.size (As x))
  (hassign : ∀ (l : Nat) (pre : List α) (x : α) (W : World) (K : Act → World → Prop), I pre W → w.heap.size + 2 < W.heap.size → (∀ a' W', Below W.heap.size W W' → As x a' W' → K a' W') →
   assign.wpIn (F.inRound l) (n - 1 - 1) P (Exit.then K (fun _ _ _ => False)) { tmps := (ps.zip (encs x)).foldl (fun t (p, v) => t.setIfInBounds p v) a.tmps, defers := [] } W)
  (hbody : ∀ (l : Nat) (pre : List α) (x : α) (W : World) (a' : Act), I pre W → As x a' W → pre.length < N → body.wpIn (F.inRound l) (n - 1 - 1) P (ownPostK Kp I (fun c xs W => c = .ret ∧ Ix xs W) (pre ++ [x]) W) a' W)
  (hdone : ∀ (D : Nat) (xs : List α) (W : World), w.heap.size ≤ D → S xs → I xs W → W.heap[D]? = some (.deferred (some [])) → Q .normal { a with defers := { target := .collected D, args := #[] } :: a.defers } W)
  (hstop : ∀ (D : Nat) (pre : List α) (W : World), w.heap.size ≤ D → Sp pre → Ix pre W → W.heap[D]? = some (.deferred (some [])) → Q .ret { a with defers := { target := .collected D, args := #[] } :: a.defers } W) :
  (Code.rangeFunc g ps assign body).wpIn F n P Q a w := by
 have hI : OwnFrom w.heap.size I := hI0.from
 have hX : OwnFrom w.heap.size Ix := hX0.from
 refine wpIn_rangeFunc fun fn hfn => ?_
 rw [hro]
 obtain ⟨rc, hrc⟩ : ∃ rc : LoopState → Option Code → Loop, rc = fun st pe => { state := st, pending := pe, fn, tmps := a.tmps, params := ps, assign, body, defers := w.heap.size } := ⟨_, rfl⟩
 obtain ⟨W1, hW1⟩ : ∃ W1, (w.alloc (.deferred (some []))).alloc (.loop (rc .ready none)) = W1 := ⟨_, rfl⟩
 have blkL : W1.heap[w.heap.size + 1]? = some (.loop (rc .ready none)) := by
  have := World.alloc_heap_new (w.alloc (.deferred (some []))) (.loop (rc .ready none)); rw [← hW1]
  rwa [World.size_alloc] at this
 have blkD : W1.heap[w.heap.size]? = some (.deferred (some [])) := by
  rw [← hW1]; exact (Below.heap_alloc _ _ _ (by simp)).trans (World.alloc_heap_new w _)
 have grown : Below w0.heap.size w0 W1 := by
  rw [← hW1]; exact hb0.trans ((((Below.refl _ w).alloc (Nat.le_refl _) _).alloc (by simp) _).mono hb0.size)
 have Zn : I [] W1 := by rw [← hW1]; exact hI.alloc _ (hI.alloc _ h0)
 refine ⟨w.heap.size + 1, [{ target := .collected w.heap.size, args := #[] }], W1, { target := .fn (.func gf) lb, args := #[.func (.yield (w.heap.size + 1)) #[] #[]] }, W1, gf,
  #[.func (.yield (w.heap.size + 1)) #[] #[]] ++ lb, W1, ?_, ?_, ?_, ?_, fun _ => h1, ?_⟩
 ·rw [← hW1, hrc]; exact run_enterLoop_outer _ _ _ _ _
 ·simp only [resolve, hg]
  simp [go_sem]
 ·intro f' hf'
  simp [Target.leads] at hf'
  subst hf'; exact hFg
 ·simp [invoke, go_sem, eg]
 have hszW1 : W1.heap.size = w.heap.size + 2 := by rw [← hW1]; simp
 have book : ∀ (A B : World) (row : Option Nat) (c : Loop), A.grownBy B row → (∀ r, row = some r → XO W1.heap.size A r) → A.heap[w.heap.size + 1]? = some (.loop c) → A.heap[w.heap.size]? = some (.deferred (some [])) → B.heap[w.heap.size + 1]? = some (.loop c) ∧ B.heap[w.heap.size]? = some (.deferred (some [])) := fun A B row c hg' hr h1 h2 =>
  ⟨(hg'.block _ (Array.getElem?_eq_some_iff.1 h1).1 (fun e => by have := (hr _ e.symm).1; omega)).trans h1, (hg'.block _ (Array.getElem?_eq_some_iff.1 h2).1 (fun e => by have := (hr _ e.symm).1; omega)).trans h2⟩
 have turn : ∀ (A : World) (row : Option Nat), (∀ r, row = some r → XO W1.heap.size A r) → ∀ r, row = some r → w.heap.size ≤ r ∧ ((∃ o : Obj, A.heap[r]? = some o ∧ o.isCells = false) ∨ XO (w.heap.size + 2) A r) := fun A row hr r e => ⟨by have := (hr r e).1; omega, .inr (by have := hr r e; rwa [hszW1] at this)⟩
 refine (hseq (w.heap.size + 1)
  (fun pre W => I pre W ∧ W.heap[w.heap.size + 1]? = some (.loop (rc .ready none)) ∧ W.heap[w.heap.size]? = some (.deferred (some [])))
  (fun pre W => Ix pre W ∧ W.heap[w.heap.size + 1]? = some (.loop (rc .done (some .ret))) ∧ W.heap[w.heap.size]? = some (.deferred (some []))) W1 grown
  (fun s A B row hs hg' hr => ⟨hI0 s A B row hs.1 hg' (turn A row hr), book A B row _ hg' hr hs.2.1 hs.2.2⟩)
  (fun s A B row hs hg' hr => ⟨hX0 s A B row hs.1 hg' (turn A row hr), book A B row _ hg' hr hs.2.1 hs.2.2⟩) ?_ ⟨Zn, blkL, blkD⟩).mono ?_
 ·rintro pre x W ⟨hi, hl, hk⟩ hlen hbig
  have hy := run_yield (P := P) (args := encs x) hl (by rw [hrc]; exact hps x)
  rw [hrc] at hy; refine ⟨fn, _, assign, body, hy, roundIn_of_wpIn hfn (hassign _ pre x W _ hi (by rw [hszW1] at hbig; exact hbig) fun a' V hb ha => ?_)⟩
  have hlV : V.heap[w.heap.size + 1]? = some (.loop (rc .ready none)) := (hb.block _ (Array.getElem?_eq_some_iff.1 hl).1).trans hl; have hkV : V.heap[w.heap.size]? = some (.deferred (some [])) := (hb.block _ (Array.getElem?_eq_some_iff.1 hk).1).trans hk; have hiV : I pre V := hI pre W V none hi (xf hb) (fun r e => by cases e); refine ⟨_, run_beginRound hlV (by rw [hrc]), ?_⟩; obtain ⟨V1, hV1⟩ : ∃ V1, V.putObj (w.heap.size + 1) (.loop { rc .ready none with state := .busy }) = V1 := ⟨_, rfl⟩; have hl1 : V1.heap[w.heap.size + 1]? = some (.loop { rc .ready none with state := .busy }) := by rw [← hV1]; exact World.putObj_heap_same (Array.getElem?_eq_some_iff.1 hlV).1
  have hk1 : V1.heap[w.heap.size]? = some (.deferred (some [])) := by rw [← hV1]; exact (World.putObj_heap_other (by omega)).trans hkV
  have hKp1 : Kp W V1 := hKt (hKg _ _ hb) (by rw [← hV1]; exact hKb _ _ _ _ (by omega) hlV rfl rfl)
  have hi1 : I pre V1 := by rw [← hV1]; exact hI.putObj _ hiV (by omega) hlV rfl
  have ha1 : As x a' V1 := by rw [← hV1]; exact (hAs x).putObj _ ha (by omega) hlV rfl
  rw [hV1]; refine wpIn_mono (hbody _ pre x V1 a' hi1 ha1 hlen) ?_; rintro e a3 W3 hp; cases e with
  | normal =>
   obtain ⟨ko, kp, hi3⟩ := hp; have hl3 := ko.same _ _ hl1 rfl; have hk3 := ko.same _ _ hk1 rfl; have he := run_endRound (P := P) none hl3; rw [hrc] at he; refine ⟨_, _, he, .inl ⟨rfl, ⟨hI.putObj _ hi3 (by omega) hl3 rfl, ?_, (World.putObj_heap_other (by omega)).trans hk3⟩, hKt (hKt hKp1 kp) (hKb _ _ _ _ (by omega) hl3 rfl rfl)⟩⟩; rw [World.putObj_heap_same (Array.getElem?_eq_some_iff.1 hl3).1, hrc]
   rfl
  | ret =>
   obtain ⟨ko, _, hi3⟩ := hp; have hl3 := ko.same _ _ hl1 rfl; have hk3 := ko.same _ _ hk1 rfl; have he := run_endRound (P := P) (some .ret) hl3; rw [hrc] at he; refine ⟨_, _, he, .inr ⟨rfl, hX.putObj _ hi3 (by omega) hl3 rfl, ?_, (World.putObj_heap_other (by omega)).trans hk3⟩⟩; rw [World.putObj_heap_same (Array.getElem?_eq_some_iff.1 hl3).1, hrc]
   rfl
  | exit id => cases hp.2.1
  | goto t => cases hp.2.1
  | panic ch => exact hp.elim
  | outgrown => exact hp.elim
 ·rintro e W2 ⟨⟨v, rfl⟩, ⟨xs, hS, hi, hl, hk⟩ | ⟨pre, hSp, hi, hl, hk⟩⟩
  ·have he := run_endLoop (P := P) hl (by rw [hrc]; simp)
   rw [hrc] at he; exact ⟨none, _, he, hdone _ xs _ (Nat.le_refl _) hS (hI.putObj _ hi (by omega) hl rfl) ((World.putObj_heap_other (by omega)).trans hk)⟩
  ·have he := run_endLoop (P := P) hl (by rw [hrc]; simp)
   rw [hrc] at he; exact ⟨some .ret, _, he, wpIn_ret (hstop _ pre _ (Nat.le_refl _) hSp (hX.putObj _ hi (by omega) hl rfl) ((World.putObj_heap_other (by omega)).trans hk))⟩
end
/-! ### Blocks of an error, of a function -/
theorem uF (w : World) (o : Oper) (ho : o.op = .alloc 53) (ev : Operand → Value) : (execOp ev o).run Tryz.prog w = .ok (.value (.pointer (some ⟨w.heap.size, 0, none⟩))) (w.alloc (.cells #[.int .i64 0] 53)) := by
 obtain ⟨d, p, t, ps, af, gd⟩ := o
 simp only at ho
 subst ho
 kernel_rfl
theorem Xd (w : World) (o : Oper) (ho : o.op = .alloc 114) (ev : Operand → Value) : (execOp ev o).run Tryz.prog w = .ok (.value (.pointer (some ⟨w.heap.size, 0, none⟩))) (w.alloc (.cells #[.nilFunc] 114)) := by
 obtain ⟨d, p, t, ps, af, gd⟩ := o
 simp only at ho
 subst ho
 kernel_rfl
theorem jR {w : World} {b : Nat} {z : Int} (h : AtB 53 w b #[.int .i64 z]) : (Instr.loadAt 53 (.pointer (some ⟨b, 0, none⟩))).run Tryz.prog w = .ok (.int .i64 z) w := by
 have c0 := h.cell 0 rfl
 simp [go_sem, c0]
theorem YF {w : World} {b : Nat} {f : Fn} {x y : Array Value} (h : AtB 114 w b #[.func f x y]) : (Instr.loadAt 114 (.pointer (some ⟨b, 0, none⟩))).run Tryz.prog w = .ok (.func f x y) w := by
 have c0 := h.cell 0 rfl
 simp [go_sem, c0]
theorem vP {ops : Array Oper} {rest : List Oper} {o : Oper} {a : Act} {w : World} {Q : Exit → Act → World → Prop} (hg : o.guard = none) (x y : Operand) (ho : o.op = .store 53 x y) (b : Nat) (hx : a.eval x = .pointer (some ⟨b, 0, none⟩)) (z : Int) (hy : a.eval y = .int .i64 z) {v : Value} (ht : AtB 53 w b #[v])
  (h : ∀ w', AtB 53 w' b #[.int .i64 z] → Chg b w w' → w'.heap.size = w.heap.size → wpList Tryz.prog ops Q rest (a.put o.dst undef) w') : wpList Tryz.prog ops Q (o :: rest) a w := by
 have c0 := ht.cell 0 rfl
 have f0 := ht.frozen 0
 refine qi hg x y ho (w.setCell ⟨b, 0, none⟩ (.int .i64 z)) ?_ (h _ ?_ ((Chg.refl b w).setCell _) (by simp only [World.size_setCell]))
 ·rw [hx, hy]
  simp [go_sem, c0, f0]
 ·exact heap_setCell_same w b 0 #[v] _ _ ht
theorem Zw {ops : Array Oper} {rest : List Oper} {o : Oper} {a : Act} {w : World} {Q : Exit → Act → World → Prop} (hg : o.guard = none) (x y : Operand) (ho : o.op = .store 114 x y) (b : Nat) (hx : a.eval x = .pointer (some ⟨b, 0, none⟩)) (f : Fn) (p q : Array Value) (hy : a.eval y = .func f p q) {v : Value} (ht : AtB 114 w b #[v])
  (h : ∀ w', AtB 114 w' b #[.func f p q] → Chg b w w' → w'.heap.size = w.heap.size → wpList Tryz.prog ops Q rest (a.put o.dst undef) w') : wpList Tryz.prog ops Q (o :: rest) a w := by
 have c0 := ht.cell 0 rfl
 have f0 := ht.frozen 0
 refine qi hg x y ho (w.setCell ⟨b, 0, none⟩ (.func f p q)) ?_ (h _ ?_ ((Chg.refl b w).setCell _) (by simp only [World.size_setCell]))
 ·rw [hx, hy]
  simp [go_sem, c0, f0]
 ·exact heap_setCell_same w b 0 #[v] _ _ ht
/-- An error stays. -/
theorem Wy (s : Stk) (k : Nat) (ls : List TA) {E : Int} (h : (jN s ((yU (ji s) k).map fun i => jK s i.val) ls).2 = E) (hE : E ≠ 0) : jN s (jh s) ls = ([], E) := by
 have e1 : jh s = ((yU (ji s) k).map fun i => jK s i.val) ++ ((List.finRange (ji s)).drop k).map fun i => jK s i.val := by
  rw [← Qf, ← List.map_append]; unfold yU; rw [List.take_append_drop]
 have e2 : jN s (jh s) ls = jN s ((yU (ji s) k).map fun i => jK s i.val) ls := by
  rw [e1]; unfold jN at *; rw [List.foldl_append]; exact JY s _ (by rw [h]; exact hE)
 rw [e2]
 exact Prod.ext (Ww s _ ls (by rw [h]; exact hE)) h
set_option maxHeartbeats 16000000 in
theorem Y5 (v vs : Value) (s : Stk) (ls : List TA) (w : World) (lm : xx w) (h : RS v ls w) (tk : qH ls) (hn : ls.length ≤ maxLen) (rs : RSE spE vs s.pts w) (hv : jC s = true) (hcol : s.col.ok) : Calls Tryz.prog 30 #[.agg #[v], .agg (stC vs s)] w fun e w' => ∃ a cp, e = .returned (.tuple #[.agg #[.slice a (qt s ls).1.length cp], .int .i64 (qt s ls).2]) ∧ RS (.slice a (qt s ls).1.length cp) (qt s ls).1 w' ∧ Below w.heap.size w w' := by
 have B := Below.refl w.heap.size w
 have HV0 := Lib.hid hv
 have HVS := Lib.hid ((jD s).1 hv)
 have HCOL := Lib.hid hcol
 have HFIN := Lib.hid (show qt s ls = jN s (jh s) (qf ls) from if_pos hv)
 have hl1 := HVS.out.l1
 have hl2 := HVS.out.l2
 obtain ⟨ad, cd, rfl, hcd⟩ := rs.len
 obtain ⟨g, o, rfl, pc⟩ := rs.at (by omega)
 obtain ⟨a, c, rfl, hc⟩ := h.len
 have TK := Lib.hid tk
 have rs1 := h
 have hg0 := pc.lt
 have hlm0 := lm.lt
 clear hv hcol h tk
 refine (callsIn_wide (n := 3)).1 ?_
 refine callsIn_of_wp_marks Tryz.func30 rfl trivial ?_ rfl
 simp only [Tryz.ntmps30, List.size_toArray, List.length_cons, List.length_nil, Nat.reduceAdd, Nat.reduceSub, Array.replicate_succ, Array.replicate_zero, List.push_toArray, List.append_toArray, List.nil_append, List.cons_append]
 refine wpIn_wide.2 ?_
 go_upto_region 0 with fail
 refine wp_region_lit ?_
 (refine zt (t := 64) rfl _ rfl _ rfl (alK B ?_); clear B; intro b_r2 wn zb zd r2 za zf zk B; (try have zh := lm.lt); (try replace lm := lm.below (za.mono zb)); (try have zh := rs1.lt); (try replace rs1 := rs1.below (za.mono zb)); (try have zh := pc.lt); (try replace pc := pc.below (za.mono zb)); (try have zh := rs.lt); (try replace rs := rs.below (za.mono zb)); simp only [zo])
 (refine zt (t := 30) rfl _ rfl _ rfl (alK B ?_); clear B; intro b_r3 wn zb zd r3 za zf zk B; (try have zh := r2.lt); (try replace r2 := r2.below (za.mono zb)); (try have zh := lm.lt); (try replace lm := lm.below (za.mono zb)); (try have zh := rs1.lt); (try replace rs1 := rs1.below (za.mono zb)); (try have zh := pc.lt); (try replace pc := pc.below (za.mono zb)); (try have zh := rs.lt); (try replace rs := rs.below (za.mono zb)); simp only [zo])
 (refine zr (t := 64) rfl _ (ql _ _ rfl) (alK B ?_); clear B; intro b_r4 wn zb zd r4 za zf zk B; (try have zh := r2.lt); (try replace r2 := r2.below (za.mono zb)); (try have zh := r3.lt); (try replace r3 := r3.below (za.mono zb)); (try have zh := lm.lt); (try replace lm := lm.below (za.mono zb)); (try have zh := rs1.lt); (try replace rs1 := rs1.below (za.mono zb)); (try have zh := pc.lt); (try replace pc := pc.below (za.mono zb)); (try have zh := rs.lt); (try replace rs := rs.below (za.mono zb)); simp only [zo])
 (refine zr (t := 53) rfl _ (uF _ _ rfl) (alK B ?_); clear B; intro b_e5 wn zb zd e5 za zf zk B; (try have zh := r2.lt); (try replace r2 := r2.below (za.mono zb)); (try have zh := r3.lt); (try replace r3 := r3.below (za.mono zb)); (try have zh := r4.lt); (try replace r4 := r4.below (za.mono zb)); (try have zh := lm.lt); (try replace lm := lm.below (za.mono zb)); (try have zh := rs1.lt); (try replace rs1 := rs1.below (za.mono zb)); (try have zh := pc.lt); (try replace pc := pc.below (za.mono zb)); (try have zh := rs.lt); (try replace rs := rs.below (za.mono zb)); simp only [zo])
 refine wpList_nil ?_
 have k2 : w.heap.size ≤ b_r2 := by omega
 have k3 : b_r2 < b_r3 := by have := r2.lt; omega
 have k4 : b_r3 < b_r4 := by have := r3.lt; omega
 have k5 : b_r4 < b_e5 := by have := r4.lt; omega
 go_upto_region 1 with fail
 refine wp_region_lit ?_
 refine chk 1 ?_
 refine clF (enters_of Tryz.func16 (by kernel_rfl) rfl) (c := xr _ s true _ rs (by omega) HV0.out) (h := ?_)
 rintro e wn ⟨rfl, za⟩
 have zf := B.size
 have zg := za.size
 replace B := B.trans (za.mono B.size)
 (try replace r2 := r2.below za)
 (try replace r3 := r3.below za)
 (try replace r4 := r4.below za)
 (try replace e5 := e5.below za)
 (try replace lm := lm.below za)
 (try replace rs1 := rs1.below za)
 (try replace pc := pc.below za)
 (try replace rs := rs.below za)
 refine ⟨_, rfl, ?_⟩
 simp only [zo]
 refine chk 1 ?_
 refine wpList_nil ?_
 clear rs
 go_upto_region 3 with fail
 refine wp_region_lit ?_
 (refine qz rfl (.func (.func 72) #[] #[.pointer (some ⟨b_r3, 0, none⟩)]) (by first | rfl | simp [go_sem, Act.eval]) ?_; simp only [zo])
 (refine zr (t := 114) rfl _ (Xd _ _ rfl) (alK B ?_); clear B; intro b_f6 wn zb zd f6 za zf zk B; (try have zh := r2.lt); (try replace r2 := r2.below (za.mono zb)); (try have zh := r3.lt); (try replace r3 := r3.below (za.mono zb)); (try have zh := r4.lt); (try replace r4 := r4.below (za.mono zb)); (try have zh := e5.lt); (try replace e5 := e5.below (za.mono zb)); (try have zh := lm.lt); (try replace lm := lm.below (za.mono zb)); (try have zh := rs1.lt); (try replace rs1 := rs1.below (za.mono zb)); (try have zh := pc.lt); (try replace pc := pc.below (za.mono zb)); simp only [zo])
 (refine Zw rfl _ _ rfl _ rfl _ _ _ rfl f6 (stK B (by omega) ?_); have f6o := f6; clear f6 B; intro wn f6 ze zf zg B; replace rs1 := rs1.chg f6o (by simp) ze; (try replace r2 := r2.of_eq (ze.block _ r2.lt (by omega))); (try replace r3 := r3.of_eq (ze.block _ r3.lt (by omega))); (try replace r4 := r4.of_eq (ze.block _ r4.lt (by omega))); (try replace e5 := e5.of_eq (ze.block _ e5.lt (by omega))); (try replace lm := lm.of_eq (ze.block _ lm.lt (by omega))); (try replace rs1 := rs1.of_eq (ze.block _ rs1.lt (by omega))); (try replace pc := pc.of_eq (ze.block _ pc.lt (by omega))); simp only [zo])
 refine wpList_nil ?_
 have k6 : b_e5 < b_f6 := by have := e5.lt; omega
 go_upto_region 4 with fail
 refine wp_region_lit ?_
 refine chk 2 ?_
 refine wpList_nil ?_
 go_upto_if 23 with fail
 go_cut [] from 22 (fun wx => ∃ (gf : FuncId) (lb : Array Value), AtB 114 wx b_f6 #[.func (.func gf) #[] lb] ∧ Hid (Go.Proofs.Enters Tryz.prog gf) ∧ Hid (∀ (W : World) (p q : Px) (n : Int), AtB 30 W b_r3 (stC (.slice (some ⟨g, o, none⟩) s.pts.length cd) s) → p.ok → (0 ≤ n ∧ n ≤ 255) → chP s p n = q → Calls Tryz.prog gf (#[.agg (pxE.enc p), .int .i64 n] ++ lb) W fun e w' => e = .returned (.agg (pxE.enc q)) ∧ Below W.heap.size W w') ∧ Below w.heap.size w wx ∧ AtB 64 wx b_r2 #[.slice a ls.length c] ∧ RS (.slice a ls.length c) ls wx ∧ AtB 30 wx b_r3 (stC (.slice (some ⟨g, o, none⟩) s.pts.length cd) s) ∧ AtB 64 wx b_r4 #[.slice none 0 0] ∧ AtB 53 wx b_e5 #[.int .i64 0] ∧ xx wx ∧ zS spE g o s.pts wx)
 case first =>
  cases hera : s.era with
  | true =>
   have HERA := Lib.hid hera; clear hera; go_upto_region 5 with fail
   refine wp_region_lit ?_
   (refine Zw rfl _ _ rfl _ rfl _ _ _ rfl f6 (stK B (by omega) ?_); have f6o := f6; clear f6 B; intro wn f6 ze zf zg B; replace rs1 := rs1.chg f6o (by simp) ze; (try replace r2 := r2.of_eq (ze.block _ r2.lt (by omega))); (try replace r3 := r3.of_eq (ze.block _ r3.lt (by omega))); (try replace r4 := r4.of_eq (ze.block _ r4.lt (by omega))); (try replace e5 := e5.of_eq (ze.block _ e5.lt (by omega))); (try replace lm := lm.of_eq (ze.block _ lm.lt (by omega))); (try replace rs1 := rs1.of_eq (ze.block _ rs1.lt (by omega))); (try replace pc := pc.of_eq (ze.block _ pc.lt (by omega))); simp only [zo])
   refine wpList_nil ?_; go_wp2; go_meet; refine ⟨_, _, f6, Lib.hid (enters_of Tryz.func74 (by kernel_rfl) rfl), Lib.hid (fun W p q n h1 h2 h3 h4 => ?_), B, r2, rs1, r3, r4, e5, lm, pc⟩; exact zaD p q n W h3 h2 (by rw [← h4]; unfold chP; rw [HERA.out]; rfl)
  | false =>
   have HERA := Lib.hid hera; clear hera; go_wp2; go_meet; refine ⟨_, _, f6, Lib.hid (enters_of Tryz.func72 (by kernel_rfl) rfl), Lib.hid (fun W p q n h1 h2 h3 h4 => ?_), B, r2, rs1, r3, r4, e5, lm, pc⟩; exact zaC _ s p q n b_r3 W h1 h2 HCOL.out (by rw [← h4]; unfold chP; rw [HERA.out]; rfl)
 case rest =>
  clear B r2 rs1 r3 r4 e5 lm pc f6; obtain ⟨gf, lb, f6, HEN, HCH, B, r2, rs1, r3, r4, e5, lm, pc⟩ := hcut; obtain ⟨bv, hbv⟩ : ∃ b, zZ ls = b := ⟨_, rfl⟩; have HBV := Lib.hid hbv; clear hbv; go_upto_region 6 with fail
  refine wp_region_lit ?_; refine chk 1 ?_
  refine clF (enters_of Tryz.func41 (by kernel_rfl) rfl) (c := zaJ _ ls bv _ rs1 TK.out hn HBV.out) (h := ?_); rintro e wn ⟨rfl, za⟩; have zf := B.size; have zg := za.size; replace B := B.trans (za.mono B.size)
  (try replace f6 := f6.below za)
  (try replace r2 := r2.below za)
  (try replace r3 := r3.below za)
  (try replace r4 := r4.below za)
  (try replace e5 := e5.below za)
  (try replace lm := lm.below za)
  (try replace rs1 := rs1.below za)
  (try replace pc := pc.below za)
  refine ⟨_, rfl, ?_⟩; simp only [zo]; refine chk 1 ?_; refine wpList_nil ?_; go_upto_if 26 with fail
  go_cut [] from 22 (fun wx => ∃ (a0 : Option Addr) (c0 : Nat), AtB 114 wx b_f6 #[.func (.func gf) #[] lb] ∧ Below w.heap.size w wx ∧ AtB 64 wx b_r2 #[.slice a0 (qf ls).length c0] ∧ RS (.slice a0 (qf ls).length c0) (qf ls) wx ∧ AtB 30 wx b_r3 (stC (.slice (some ⟨g, o, none⟩) s.pts.length cd) s) ∧ AtB 64 wx b_r4 #[.slice none 0 0] ∧ AtB 53 wx b_e5 #[.int .i64 0] ∧ xx wx ∧ zS spE g o s.pts wx)
  case first =>
   cases bv with
   | true =>
    go_wp2; go_meet; rw [xe HBV.out]; exact ⟨_, _, f6, B, r2, rs1, r3, r4, e5, lm, pc⟩
   | false =>
    go_upto_region 7 with fail
    refine wp_region_lit ?_
    (refine qz rfl (.agg #[.slice none 0 0]) (by kernel_rfl) ?_; simp only [zo])
    (refine zq (t := 64) rfl _ _ rfl _ rfl _ rfl r2 (by kernel_rfl) rfl (by simp [Value.oneCell']) (stK B (by omega) ?_); clear r2 B; intro wn r2 ze zf zg B; (try replace f6 := f6.of_eq (ze.block _ f6.lt (by omega))); (try replace r3 := r3.of_eq (ze.block _ r3.lt (by omega))); (try replace r4 := r4.of_eq (ze.block _ r4.lt (by omega))); (try replace e5 := e5.of_eq (ze.block _ e5.lt (by omega))); (try replace lm := lm.of_eq (ze.block _ lm.lt (by omega))); (try replace pc := pc.of_eq (ze.block _ pc.lt (by omega))); simp only [zo])
    refine wpList_nil ?_; go_wp2; go_meet; have hfn : qf ls = [] := by unfold qf; rw [HBV.out]; rfl
    rw [hfn]; exact ⟨_, _, f6, B, r2, RS.nil _, r3, r4, e5, lm, pc⟩
  case rest =>
   clear B r2 rs1 r3 r4 e5 lm pc f6 HBV; obtain ⟨a0, c0, f6, B, r2, rs1, r3, r4, e5, lm, pc⟩ := hcut; have VF := Lib.hid (jw ls); have TF := Lib.hid (yo TK.out); clear TK hn hc; obtain ⟨L0, hL0⟩ : ∃ l, qf ls = l := ⟨_, rfl⟩; rw [hL0] at r2 rs1 VF TF HFIN; clear hL0; have l6 := f6.lt; go_upto_region 8 with fail
   refine wp_region_lit ?_; refine chk 1 ?_
   refine clF (enters_of Tryz.func58 (by kernel_rfl) rfl) (c := zaU _ s _) (h := ?_); rintro e wn ⟨bw, rfl, hbw, r9, za⟩; have zf := B.size; have zg := za.size; replace B := B.trans (za.mono B.size)
   (try replace f6 := f6.below za)
   (try replace r2 := r2.below za)
   (try replace r3 := r3.below za)
   (try replace r4 := r4.below za)
   (try replace e5 := e5.below za)
   (try replace lm := lm.below za)
   (try replace rs1 := rs1.below za)
   (try replace pc := pc.below za)
   refine ⟨_, rfl, ?_⟩; simp only [zo]; refine wpList_nil ?_; have k7 : b_f6 < bw := by omega
   have k8 := r9.lt; obtain ⟨w1, hw1⟩ : ∃ w1, w1 = wn := ⟨_, rfl⟩; rw [← hw1] at B r2 rs1 r3 r4 e5 lm pc f6 r9 k8 ⊢; clear hw1; have hszB := B.size; go_wp2; refine (wpIn_wide (n := 3)).1 ?_; refine J8 (F := Fence.wide) rfl (by omega) (gf := 109) (lb := #[.pointer (some ⟨bw, 0, none⟩)]) rfl trivial (enters_of Tryz.func109 (by kernel_rfl) rfl) (QP s HVS.out g o cd bw b_r2 w1.heap.size _ (by omega) _ r9 hcd pc (by omega) (by omega) (by omega) (by omega) (Nat.le_refl _)) (fun h k => KpW.trans h k) (fun W l o o' hl ho hc _ => KpW.putObj W l o o' hl ho hc) (fun A B h => KpW.below h) (Below.refl _ _) (fun _ => rfl)
    (fun pre W => ∃ (a1 : Option Addr) (c1 : Nat) (M : List TA), Hid (jN s (pre.map (fun i => jK s i.val)) L0 = (M, 0)) ∧ AtB 64 W b_r2 #[.slice a1 M.length c1] ∧ RS (.slice a1 M.length c1) M W ∧ AtB 30 W b_r3 (stC (.slice (some ⟨g, o, none⟩) s.pts.length cd) s) ∧ AtB 64 W b_r4 #[.slice none 0 0] ∧ AtB 53 W b_e5 #[.int .i64 0] ∧ AtB 114 W b_f6 #[.func (.func gf) #[] lb] ∧ xx W ∧ Below w.heap.size w W)
    (fun pre W => ∃ (E : Int), Hid ((jN s (pre.map (fun i => jK s i.val)) L0).2 = E ∧ E ≠ 0) ∧ AtB 64 W b_r4 #[.slice none 0 0] ∧ AtB 53 W b_e5 #[.int .i64 E] ∧ Below w.heap.size w W)
    (fun pre W W' row hI hg hr => ?own) (fun pre W W' row hI hg hr => ?ownX)
    ⟨a0, c0, L0, Lib.hid rfl, r2, rs1, r3, r4, e5, f6, lm, B⟩
    (fun x a' W => ∃ b7 : Nat, a'.defers = [] ∧ a'.tmps.size = 99 ∧ a'.tmps.getD 2 undef = .pointer (some ⟨b_r2, 0, none⟩) ∧ a'.tmps.getD 3 undef = .pointer (some ⟨b_r3, 0, none⟩) ∧ a'.tmps.getD 4 undef = .pointer (some ⟨b_r4, 0, none⟩) ∧ a'.tmps.getD 5 undef = .pointer (some ⟨b_e5, 0, none⟩) ∧ a'.tmps.getD 6 undef = .pointer (some ⟨b_f6, 0, none⟩) ∧ a'.tmps.getD 7 undef = .pointer (some ⟨b7, 0, none⟩) ∧ AtB 45 W b7 (dbE.enc (jK s x.val)) ∧ b_f6 < b7)
    (fun x a' W W' row hA hg hr => ?own2) ?assign ?body ?done ?stop
   case own =>
    obtain ⟨a1, c1, M, h0, h1, h2, h3, h4, h5, h6, h7, h8⟩ := hI; have hne : ∀ b, b < w1.heap.size → row ≠ some b := fun b hb e => by have := (hr _ e).1; omega
    refine ⟨a1, c1, M, h0, h1.grown hg (hne _ (by omega)), h2.own3 hg (fun r e => ?_), h3.grown hg (hne _ (by omega)), h4.grown hg (hne _ (by omega)), h5.grown hg (hne _ (by omega)), h6.grown hg (hne _ (by omega)), h7.of_eq (hg.block _ h7.lt (fun e => hne _ (by omega) e.symm)), vT h8 h8.size hg (fun r e => Nat.le_trans hszB (hr r e).1)⟩; rcases (hr r e).2 with h | ⟨_, h⟩
    ·exact .inl h
    ·exact .inr h
   case ownX =>
    obtain ⟨E, h0, h4, h5, h8⟩ := hI; have hne : ∀ b, b < w1.heap.size → row ≠ some b := fun b hb e => by have := (hr _ e).1; omega
    exact ⟨E, h0, h4.grown hg (hne _ (by omega)), h5.grown hg (hne _ (by omega)), vT h8 h8.size hg (fun r e => Nat.le_trans hszB (hr r e).1)⟩
   case own2 =>
    obtain ⟨b7, e1, e2, e3, e4, e5', e6, e7, e8, h1, h2⟩ := hA; exact ⟨b7, e1, e2, e3, e4, e5', e6, e7, e8, h1.own hg (fun r e => (hr r e).2), h2⟩
   case assign =>
    intro l pre x W K ⟨_, _, _, _, _, _, _, _, _, hl6, _⟩ hbig hK; have B := Below.refl W.heap.size W; have hl := hl6.lt; obtain ⟨D, hD⟩ : ∃ p, jK s x.val = p := ⟨_, rfl⟩; rw [hD] at hK; rw [hD]
    dsimp only
    refine Xu ?_; simp only [List.setIfInBounds_toArray, List.set_cons_succ, List.set_cons_zero]; refine zG (by kernel_rfl) ?_
    (refine zr (t := 45) rfl _ (yN _ _ rfl) (alK B ?_); clear B; intro b_d7 wn zb zd d7 za zf zk B; simp only [zo])
    (refine zq (t := 45) rfl _ _ rfl _ rfl _ rfl d7 (by kernel_rfl) rfl (by simp [dbE, Value.oneCell']) (stK B (by omega) ?_); clear d7 B; intro wn d7 ze zf zg B; simp only [zo])
    refine wpList_nil ?_; refine qo.at ?_; refine hK _ _ B ⟨_, rfl, rfl, rfl, rfl, rfl, rfl, rfl, rfl, d7, by omega⟩
   case stop =>
    rintro D pre W hD ⟨k, rfl⟩ ⟨E, HE, r4, e5, BW⟩ hDD; have kd : yx W D := hDD; have hE := Wy s k L0 HE.out.1 HE.out.2; rw [← HFIN.out] at hE; have HEQ := Lib.hid hE; clear hE; have BF := BW.trans (belowK_b (w := w) (Nat.le_refl _) W D _ (.deferred none) (by omega) kd rfl rfl); refine ⟨by simp, .inl ⟨_, _, rfl, run_takeDeferred kd, ?_⟩⟩; refine ⟨_, xk (t := 64) (u := 53) rfl _ _ b_r4 b_e5 rfl rfl ((World.putObj_heap_other (fun e => kd.ne r4 (by omega))).trans r4) (jR ((World.putObj_heap_other (fun e => kd.ne e5 (by omega))).trans e5)) Tryz.isAgg64 (by kernel_rfl), ?_⟩; rw [HEQ.out]; exact ⟨none, 0, rfl, RS.nil _, BF⟩
   case done =>
    rintro D xs W hD rfl ⟨a1, c1, M, HM, r2, rs1, r3, r4, e5, f6, lm, BW⟩ hDD; have kd : yx W D := hDD; have hM := HM.out; rw [Qf] at hM; have hval := (kS HCOL.out (jh s) VF.out TF.out).1; rw [hM] at hval; rw [← HFIN.out] at hM; have hMn := (jX.1 hval).1
    dsimp only at hMn
    have HEQ := Lib.hid hM; have B := BW; have hwD : w.heap.size ≤ D := by omega
    have hne := kd.ne r4; have hne5 := kd.ne e5; clear BW r3 f6 lm hD hval hM; go_upto_region 28 with fail
    refine wp_region_lit ?_; refine chk 2 ?_
    refine clF (enters_of Tryz.func78 (by kernel_rfl) rfl) (c := xT _ M _ rs1 (by omega)) (h := ?_); rintro e wn ⟨v2, b2, rfl, _, _, od2, za⟩; have zf := B.size; have zg := za.size; replace B := B.trans (za.mono B.size)
    (try replace r2 := r2.below za)
    (try replace r4 := r4.below za)
    (try replace e5 := e5.below za)
    (try replace kd := kd.below za)
    have rs2 := od2.rs; clear od2; obtain ⟨a2, c2, rfl, hc2⟩ := rs2.len; refine ⟨_, rfl, ?_⟩; simp only [zo]; refine chk 1 ?_
    (refine zq (t := 64) rfl _ _ rfl _ rfl _ rfl r4 (by kernel_rfl) rfl (by simp [Value.oneCell']) (stK B (by omega) ?_); have r4o := r4; clear r4 B; intro wn r4 ze zf zg B; (try replace rs2 := rs2.chg r4o (by simp) ze); (try replace r2 := r2.of_eq (ze.block _ r2.lt (by omega))); (try replace e5 := e5.of_eq (ze.block _ e5.lt (by omega))); (try replace kd := kd.of_eq (ze.block _ kd.lt (by omega))); simp only [zo])
    (refine vP rfl _ _ rfl _ rfl _ rfl e5 (stK B (by omega) ?_); have e5o := e5; clear e5 B; intro wn e5 ze zf zg B; replace rs2 := rs2.chg e5o (by simp) ze; (try replace r2 := r2.of_eq (ze.block _ r2.lt (by omega))); (try replace r4 := r4.of_eq (ze.block _ r4.lt (by omega))); (try replace kd := kd.of_eq (ze.block _ kd.lt (by omega))); simp only [zo])
    refine wpList_nil ?_; go_wp2; refine ⟨by simp, .inl ⟨_, _, rfl, run_takeDeferred kd, ?_⟩⟩; refine ⟨_, xk (t := 64) (u := 53) rfl _ _ b_r4 b_e5 rfl rfl ((World.putObj_heap_other (fun e => hne (by omega))).trans r4) (jR ((World.putObj_heap_other (fun e => hne5 (by omega))).trans e5)) Tryz.isAgg64 (by kernel_rfl), ?_⟩; have BF := B.trans (belowK_b (w := w) (Nat.le_refl _) wn D _ (.deferred none) hwD kd rfl rfl); rw [HEQ.out]; exact ⟨_, _, rfl, rs2.own (grownBy_putObj' _ _ _) (fun r e => by cases e; exact ⟨_, kd, rfl⟩), BF⟩
   case body =>
    rintro l pre x W ⟨tm, df⟩ ⟨a1, c1, M, HM, r2, rs1, r3, r4, e5, f6, lm, BW⟩ ⟨b7, e1, e2, e3, e4, e5', e6, e7, e8, p7, k10⟩ hpre; obtain ⟨U, hU, hUi⟩ := Kc tm 99 e2
    dsimp only at e3 e4 e5' e6 e7 e8
    rw [← hUi] at e3 e4 e5' e6 e7 e8; have eL : ((List.range 99).map U).toArray = #[U 0, U 1, U 2, U 3, U 4, U 5, U 6, U 7, U 8, U 9, U 10, U 11, U 12, U 13, U 14, U 15, U 16, U 17, U 18, U 19, U 20, U 21, U 22, U 23, U 24, U 25, U 26, U 27, U 28, U 29, U 30, U 31, U 32, U 33, U 34, U 35, U 36, U 37, U 38, U 39, U 40, U 41, U 42, U 43, U 44, U 45, U 46, U 47, U 48, U 49, U 50, U 51, U 52, U 53, U 54, U 55, U 56, U 57, U 58, U 59, U 60, U 61, U 62, U 63, U 64, U 65, U 66, U 67, U 68, U 69, U 70, U 71, U 72, U 73, U 74, U 75, U 76, U 77, U 78, U 79, U 80, U 81, U 82, U 83, U 84, U 85, U 86, U 87, U 88, U 89, U 90, U 91, U 92, U 93, U 94, U 95, U 96, U 97, U 98] := rfl; rw [eL] at hU; rw [e3, e4, e5', e6, e7, e8] at hU; subst hU; have e1 : df = [] := e1; subst e1; clear e2 e3 e4 e5' e6 e7 e8 hUi eL; have hval := kS HCOL.out (pre.map (fun i => jK s i.val)) VF.out TF.out; have HST0 : jN s ((pre ++ [x]).map (fun i => jK s i.val)) L0 = jS s (M, 0) (jK s x.val) := by
     rw [List.map_append]; show jN s (pre.map (fun i => jK s i.val) ++ [jK s x.val]) L0 = _
     rw [Wx, HM.out]
    rw [HM.out] at hval; have VM := Lib.hid hval.1; have TM := Lib.hid hval.2; have hMn := (jX.1 hval.1).1
    dsimp only at hMn
    have OKD := Lib.hid (Vn HVS.out x.isLt)
    generalize hD : jK s x.val = D at *
    obtain ⟨o1, o2, o3, o4, o5, o6⟩ := OKD.out; have HST := Lib.hid HST0; clear hD HST0 hval HM; obtain ⟨qs, hqs⟩ : ∃ q, kK D = q := ⟨_, rfl⟩; obtain ⟨c, hcc⟩ : ∃ q, sqC D = q := ⟨_, rfl⟩; have HQS := Lib.hid hqs; have HC0 := Lib.hid hcc; have HC := Lib.hid (show kT qs J1 = c from by rw [← hqs, ← hcc]; rfl)
    clear hqs hcc; have R2W := Lib.hid r2; have RS1W := Lib.hid rs1; have R4W := Lib.hid r4; have E5W := Lib.hid e5; have LMW := Lib.hid lm; have BWW := Lib.hid BW; have hws := BW.size; have l2 := r2.lt; have l3 := r3.lt; have l4 := r4.lt; have l5 := e5.lt; have l6 := f6.lt; have l7 := p7.lt; have l0 := lm.lt; have B := Below.refl W.heap.size W; clear rs1 r4 e5 BW; gi_upto_region 10 with fail
    try have lx_r2 := r2.lt
    try have lx_r3 := r3.lt
    try have lx_f6 := f6.lt
    try have lx_lm := lm.lt
    try have lx_p7 := p7.lt
    refine Yx (by kernel_rfl) 5 [(1, z2 ?v1_1), (3, z2 ?v1_3), (4, zfF (W.heap.size) 38 #[.int .i64 0, .int .i64 0, .int .i64 0, .int .i64 0])] (by kernel_rfl) (by kernel_rfl) (by kernel_rfl) ?_
    rotate_left 2
    simp only [xB, Nat.reduceAdd]; refine crk 1 ?_
    refine zL (by rfl) (by first | rfl | simp [Region.wanted, yielded]) ?_ ?_
    ·intro wn za hE Kx hKx
     have zf := B.size; have zg := za.size; replace B := B.trans (za.mono B.size)
     (try replace r2 := r2.below za)
     (try replace r3 := r3.below za)
     (try replace f6 := f6.below za)
     (try replace lm := lm.below za)
     (try replace p7 := p7.below za)
     refine z7 rfl (enters_of Tryz.func62 (by kernel_rfl) rfl) (by simp only [Act.eval, qQ]; rfl) ?_
     refine (yz D qs wn (by omega) (by omega) (by omega) HQS.out).mono ?_; rintro e wm ⟨rfl, zl⟩; refine ⟨_, rfl, ?_⟩; have hz := hKx () wm trivial zl
     dsimp only [z2] at hz
     exact hz
    rintro ⟨⟩
    dsimp only [z2]
    simp only [zo]; refine crq 1 ?_; repeat (first | go_big_quiet_skip | (go_big_quiet_want; first | ((first | refine zn (t := 38) rfl _ _ _ rfl (fun w hw => uI (zbN lm w hw)) (by first | rfl | omega) ?_ | refine qB ?_ | refine qC ?_); simp only [zo]; go_big_quiet_on) | (go_big_quiet_op; go_big_quiet_on)))
    refine wpQuiet_nil ?_; refine zL (by rfl) (by first | rfl | simp [Region.wanted, yielded]) ?_ ?_
    ·intro wn za hE Kx hKx
     have zf := B.size; have zg := za.size; replace B := B.trans (za.mono B.size)
     (try replace r2 := r2.below za)
     (try replace r3 := r3.below za)
     (try replace f6 := f6.below za)
     (try replace lm := lm.below za)
     (try replace p7 := p7.below za)
     refine z7 rfl (enters_of Tryz.func46 (by kernel_rfl) rfl) (by simp only [Act.eval, qQ]; rfl) ?_
     refine (XC qs J1 c wn HC.out).mono ?_; rintro e wm ⟨rfl, zl⟩; refine ⟨_, rfl, ?_⟩; have hz := hKx () wm trivial zl
     dsimp only [z2] at hz
     exact hz
    rintro ⟨⟩
    dsimp only [z2]
    simp only [zo]; refine zL (by rfl) (by first | rfl | simp [Region.wanted, yielded]) ?_ ?_
    ·intro wn za hE Kx hKx
     have zf := B.size; have zg := za.size; replace B := B.trans (za.mono B.size)
     (try replace r2 := r2.below za)
     (try replace r3 := r3.below za)
     (try replace f6 := f6.below za)
     (try replace lm := lm.below za)
     (try replace p7 := p7.below za)
     refine zD (t := 38) _ (zY _ _ rfl) ?_; intro b wm h1 h2 ht zl zm; exact hKx b wm ⟨Nat.le_trans za.size h1, ht⟩ (zl.mono h1)
    rintro b_c8
    dsimp only [z2, zfF]
    simp only [zo]; refine qP ?_; intro wn za hE; have zf := B.size; have zg := za.size; replace B := B.trans (za.mono B.size)
    (try replace r2 := r2.below za)
    (try replace r3 := r3.below za)
    (try replace f6 := f6.below za)
    (try replace lm := lm.below za)
    (try replace p7 := p7.below za)
    obtain ⟨hge_c8, c8⟩ : _ ∧ AtB _ _ _ _ := hE 4; clear hE; try simp only [List.drop_succ_cons, List.drop_zero]
    (refine zq (t := 38) rfl _ _ rfl _ rfl _ rfl c8 (by kernel_rfl) rfl (by simp [rcA, Value.oneCell']) (stK B (by omega) ?_); clear c8 B; intro wn c8 ze zf zg B; (try replace r2 := r2.of_eq (ze.block _ r2.lt (by omega))); (try replace r3 := r3.of_eq (ze.block _ r3.lt (by omega))); (try replace f6 := f6.of_eq (ze.block _ f6.lt (by omega))); (try replace lm := lm.of_eq (ze.block _ lm.lt (by omega))); (try replace p7 := p7.of_eq (ze.block _ p7.lt (by omega))); simp only [zo])
    refine wpList_nil ?_; refine zN.normal ?_; refine qo.at ?_; try dsimp only
    replace c8 : AtB 38 _ b_c8 (rcA c) := c8; have k11 : W.heap.size ≤ b_c8 := by omega
    by_cases hr1 : D.r < 1
    ·have q1 : decide (D.r < 1) = true := decide_eq_true hr1
     gi_upto_region 11 with fail
     refine zG (by kernel_rfl) ?_; refine chk 5 ?_
     refine jc ?hs11_5 ?_
     case hs11_5 => kernel_rfl
     simp only [zo]; refine chk 1 ?_; refine wpList_nil ?_; refine qo.at ?_; try dsimp only
     gi_wp2
     refine ⟨KeepsOthers.below B, KpW.below B, a1, c1, M, Lib.hid ?_, r2, RS1W.out.below B, r3, R4W.out.of_eq (B.block _ l4), E5W.out.of_eq (B.block _ l5), f6, lm, BWW.out.trans (B.mono hws)⟩; rw [HST.out]; exact vY s _ (by unfold skD; rw [q1]; rfl)
    ·have q1 : decide (D.r < 1) = false := decide_eq_false hr1
     cases hem : qw c with
     | true =>
      have HEM := Lib.hid hem; clear hem; gi_upto_region 11 with fail
      refine zG (by kernel_rfl) ?_; refine chk 5 ?_
      refine clF (enters_of Tryz.func45 (by kernel_rfl) rfl) (c := ZX c true _ HEM.out) (h := ?_); rintro e wn ⟨rfl, za⟩; have zf := B.size; have zg := za.size; replace B := B.trans (za.mono B.size)
      (try replace r2 := r2.below za)
      (try replace r3 := r3.below za)
      (try replace f6 := f6.below za)
      (try replace lm := lm.below za)
      (try replace p7 := p7.below za)
      (try replace c8 := c8.below za)
      refine ⟨_, rfl, ?_⟩; simp only [zo]; refine chk 1 ?_; refine wpList_nil ?_; refine qo.at ?_; try dsimp only
      gi_wp2
      refine ⟨KeepsOthers.below B, KpW.below B, a1, c1, M, Lib.hid ?_, r2, RS1W.out.below B, r3, R4W.out.of_eq (B.block _ l4), E5W.out.of_eq (B.block _ l5), f6, lm, BWW.out.trans (B.mono hws)⟩; rw [HST.out]; exact vY s _ (by unfold skD; rw [HC0.out, HEM.out]; simp)
     | false =>
      have HSK : skD D = false := by unfold skD; rw [HC0.out, hem, q1]; rfl
      have HEM := Lib.hid hem; clear hem; obtain ⟨HE1, HF1⟩ := Xn OKD.out HSK; rw [HC0.out] at HE1 HF1; have HST2 : jN s ((pre ++ [x]).map (fun i => jK s i.val)) L0 = (kH c (kn s D M) M, uz c (kn s D M) M) := by rw [HST.out, JX s HSK, HC0.out]
      have HIL : kn s D M = yX c (fun x y => Zy s (vt D x y) (xM M x y)) := by unfold kn; rw [HC0.out]
      have okI : OkL (kn s D M) := VA HCOL.out D TM.out; have hIn : (kn s D M).length = areaN c := by rw [Qm, HC0.out]
      have HE0 := Lib.hid HE1; have HFit := Lib.hid HF1; have HA := Lib.hid (ZI HF1); have HAW := Lib.hid (xX HF1).1; obtain ⟨f1, f2, f3, f4, f5, f6', f7, f8⟩ := HF1; have hwid : (widN c : Int) = c.x1 - c.x0 := by unfold widN; omega
      obtain ⟨Wd, hWd⟩ : ∃ n, widN c = n := ⟨_, rfl⟩; rw [hWd] at hwid; have HWD := Lib.hid hWd; clear hWd HE1; obtain ⟨I, hI⟩ : ∃ l, kn s D M = l := ⟨_, rfl⟩; rw [hI] at HST2 HIL okI hIn; have HS2 := Lib.hid HST2; have HI := Lib.hid HIL; have OKI := Lib.hid okI; clear HST2 HIL okI hI HSK HST; obtain ⟨R', hR'⟩ : ∃ l, kH c I M = l := ⟨_, rfl⟩; obtain ⟨E, hE⟩ : ∃ e, uz c I M = e := ⟨_, rfl⟩; have HR' := Lib.hid hR'; have HEe := Lib.hid hE; clear hR' hE; gi_upto_region 11 with fail
      refine zG (by kernel_rfl) ?_; refine chk 5 ?_
      refine clF (enters_of Tryz.func45 (by kernel_rfl) rfl) (c := ZX c false _ HEM.out) (h := ?_); rintro e wn ⟨rfl, za⟩; have zf := B.size; have zg := za.size; replace B := B.trans (za.mono B.size)
      (try replace r2 := r2.below za)
      (try replace r3 := r3.below za)
      (try replace f6 := f6.below za)
      (try replace lm := lm.below za)
      (try replace p7 := p7.below za)
      (try replace c8 := c8.below za)
      refine ⟨_, rfl, ?_⟩; simp only [zo]; refine chk 1 ?_; refine wpList_nil ?_; refine qo.at ?_; try dsimp only
      have rs1 := RS1W.out.below B; have hc8 := c8.lt; have hszW := B.size; gi_upto_region 12 with fail
      refine zG (by kernel_rfl) ?_; refine chk 2 ?_
      refine clF (enters_of Tryz.func76 (by kernel_rfl) rfl) (c := XA _ M c _ rs1 TM.out VM.out HE0.out) (h := ?_); rintro e wn ⟨cb, hcb, rfl, row, za⟩; have zf := B.size; have zg := za.size; replace B := B.trans (za.mono B.size)
      (try replace r2 := r2.below za)
      (try replace r3 := r3.below za)
      (try replace f6 := f6.below za)
      (try replace lm := lm.below za)
      (try replace p7 := p7.below za)
      (try replace c8 := c8.below za)
      (try replace row := row.below za)
      have kcb : W.heap.size ≤ cb := by omega
      have kc8 : @LT.lt Nat _ b_c8 cb := by omega
      clear rs1; refine ⟨_, rfl, ?_⟩; simp only [zo]; refine chk 3 ?_
      (have _ := row.lt; refine zr (t := 117) rfl _ (x9 _ _ rfl) (alK B ?_); clear B; intro b_i9 wn zb zd i9 za zf zk B; (try have zh := r2.lt); (try replace r2 := r2.below (za.mono zb)); (try have zh := r3.lt); (try replace r3 := r3.below (za.mono zb)); (try have zh := f6.lt); (try replace f6 := f6.below (za.mono zb)); (try have zh := lm.lt); (try replace lm := lm.below (za.mono zb)); (try have zh := p7.lt); (try replace p7 := p7.below (za.mono zb)); (try have zh := c8.lt); (try replace c8 := c8.below (za.mono zb)); (try have zh := row.lt); (try replace row := row.below (za.mono zb)); simp only [zo])
      (refine zq (t := 117) rfl _ _ rfl _ rfl _ rfl i9 (by kernel_rfl) rfl (by simp [xg, Value.oneCell']) (stK B (by omega) ?_); clear i9 B; intro wn i9 ze zf zg B; (try replace r2 := r2.of_eq (ze.block _ r2.lt (by omega))); (try replace r3 := r3.of_eq (ze.block _ r3.lt (by omega))); (try replace f6 := f6.of_eq (ze.block _ f6.lt (by omega))); (try replace lm := lm.of_eq (ze.block _ lm.lt (by omega))); (try replace p7 := p7.of_eq (ze.block _ p7.lt (by omega))); (try replace c8 := c8.of_eq (ze.block _ c8.lt (by omega))); (try replace row := row.of_eq (ze.block _ row.lt (by omega))); simp only [zo])
      refine chk 1 ?_; refine wpList_nil ?_; refine qo.at ?_; try dsimp only
      replace i9 : AtB 117 _ b_i9 (xg c (.slice (some ⟨cb, 0, none⟩) (areaN c) (areaN c))) := i9; have kci : b_i9 ≠ cb := by omega
      clear lm r2; gi_upto_region 13 with fail
      refine zG (by kernel_rfl) ?_; refine chk 1 ?_; refine wpList_nil ?_; refine qo.at ?_; try dsimp only
      gi_upto_region 14 with fail
      refine zG (by kernel_rfl) ?_; refine chk 3 ?_
      refine wpList_nil ?_; refine qo.at ?_; try dsimp only
      gi_wp2
      gi_loopw [11, 12, 13, 14] (fun kv yv _ _ wr => ∃ (i k : Nat) (R : List Px), (i : Int) ≤ c.y1 - c.y0 ∧ Hid (k = i * Wd) ∧ kv = .int .i64 (k : Int) ∧ yv = .int .i64 (c.y0 + (i : Int)) ∧ Hid (kq c (fun x y => Zy s (vt D x y) (xM M x y)) (fun x y => xM M x y) k = R) ∧ Below W.heap.size W wr ∧ AtB 45 wr b7 (dbE.enc D) ∧ AtB 38 wr b_c8 (rcA c) ∧ AtB 117 wr b_i9 (xg c (.slice (some ⟨cb, 0, none⟩) (areaN c) (areaN c))) ∧ AtB 114 wr b_f6 #[.func (.func gf) #[] lb] ∧ AtB 30 wr b_r3 (stC (.slice (some ⟨g, o, none⟩) s.pts.length cd) s) ∧ jo pxE wr cb R) (fun _ yv _ _ _ => (c.y1 - intOf yv).toNat)
      case atStart => exact ⟨0, 0, _, by omega, Lib.hid (by rw [Nat.zero_mul]), rfl, by rw [Int.natCast_zero, Int.add_zero], Lib.hid (WA c M _), B, p7, c8, i9, f6, r3, row⟩
      case round =>
       clear B p7 c8 i9 f6 r3 row; obtain ⟨i, k, R, hi, HK, rfl, rfl, HR, B, p7, c8, i9, f6, r3, row⟩ := hrel; by_cases hi1 : (i : Int) < c.y1 - c.y0
       ·have q2 : decide (c.y0 + (i : Int) < c.y1) = true := decide_eq_true (by omega)
        gi_upto_region 15 with fail
        refine zG (by kernel_rfl) ?_; refine chk 4 ?_
        refine wpList_nil ?_; refine qo.at ?_; try dsimp only
        gi_upto_region 17 with fail
        refine zG (by kernel_rfl) ?_; refine chk 3 ?_
        refine wpList_nil ?_; refine qo.at ?_; try dsimp only
        gi_wp2
        gi_loopw [11, 13, 14] (fun kv xv _ wr => ∃ (j k : Nat) (R : List Px), (j : Int) ≤ c.x1 - c.x0 ∧ Hid (k = i * Wd + j) ∧ kv = .int .i64 (k : Int) ∧ xv = .int .i64 (c.x0 + (j : Int)) ∧ Hid (kq c (fun x y => Zy s (vt D x y) (xM M x y)) (fun x y => xM M x y) k = R) ∧ Below W.heap.size W wr ∧ AtB 45 wr b7 (dbE.enc D) ∧ AtB 38 wr b_c8 (rcA c) ∧ AtB 117 wr b_i9 (xg c (.slice (some ⟨cb, 0, none⟩) (areaN c) (areaN c))) ∧ AtB 114 wr b_f6 #[.func (.func gf) #[] lb] ∧ AtB 30 wr b_r3 (stC (.slice (some ⟨g, o, none⟩) s.pts.length cd) s) ∧ jo pxE wr cb R) (fun _ xv _ _ => (c.x1 - intOf xv).toNat)
        case atStart => exact ⟨0, k, R, by omega, Lib.hid (by rw [Nat.add_zero]; exact HK.out), rfl, by rw [Int.natCast_zero, Int.add_zero], HR, B, p7, c8, i9, f6, r3, row⟩
        case round =>
         clear B p7 c8 i9 f6 r3 row HR HK; obtain ⟨j, k, R, hj, HK, rfl, rfl, HR, B, p7, c8, i9, f6, r3, row⟩ := hrel; by_cases hj1 : (j : Int) < c.x1 - c.x0
         ·have q3 : decide (c.x0 + (j : Int) < c.x1) = true := decide_eq_true (by omega)
          have hat := zbB HFit.out (fun x y => Zy s (vt D x y) (xM M x y)) (fun x y => xM M x y) (i := i) (j := j) hj1 hi1; rw [HWD.out] at hat; simp only [← Nat.add_assoc, ← HK.out] at hat; obtain ⟨hka, hp, hset, hsame⟩ := hat; have okp : (xM M (c.x0 + (j : Int)) (c.y0 + (i : Int))).ok := yQ TM.out _ _ _ (by omega); obtain ⟨p, hpe⟩ : ∃ p, xM M (c.x0 + (j : Int)) (c.y0 + (i : Int)) = p := ⟨_, rfl⟩; obtain ⟨n, hn⟩ : ∃ n, vt D (c.x0 + (j : Int)) (c.y0 + (i : Int)) = n := ⟨_, rfl⟩; have hnb := zc5 D (c.x0 + (j : Int)) (c.y0 + (i : Int)); rw [hpe] at hp hset hsame okp; rw [hn] at hset hsame hnb; rw [HR.out] at hp hset hsame; have HN := Lib.hid hn; have OKP := Lib.hid okp; have hRl : R.length = areaN c := by rw [← HR.out]; exact zby _ _ _ _
          have hA2 := HA.out; have hkR : k < R.length := by omega
          have HP := Lib.hid hp; clear hn hpe okp hp; gi_upto_region 18 with fail
          refine zG (by kernel_rfl) ?_; refine chk 4 ?_
          refine wpList_nil ?_; refine qo.at ?_; try dsimp only
          gi_upto_region 20 with fail
          refine zG (by kernel_rfl) ?_; refine chk 3 ?_
          refine clF (enters_of Tryz.func24 (by kernel_rfl) rfl) (c := KX D (c.x0 + (j : Int)) (c.y0 + (i : Int)) n _ (by omega) (by omega) (by omega) HN.out) (h := ?_); rintro e wn ⟨rfl, za⟩; have zf := B.size; have zg := za.size; replace B := B.trans (za.mono B.size)
          (try replace p7 := p7.below za)
          (try replace c8 := c8.below za)
          (try replace i9 := i9.below za)
          (try replace f6 := f6.below za)
          (try replace r3 := r3.below za)
          (try replace row := row.below za)
          refine ⟨_, rfl, ?_⟩; simp only [zo]; refine chk 1 ?_; refine wpList_nil ?_; refine qo.at ?_; try dsimp only
          by_cases hn0 : 0 < n
          ·have q4 : decide (0 < n) = true := decide_eq_true hn0
           have q4' : decide (n > 0) = true := decide_eq_true hn0; obtain ⟨q, hq⟩ : ∃ q, chP s p n = q := ⟨_, rfl⟩; rw [VB, if_pos hn0, hq] at hset; have HQ := Lib.hid hq; have HSET := Lib.hid hset; clear hq hset hsame; gi_upto_region 21 with fail
           refine zG (by kernel_rfl) ?_; refine chk 2 ?_; refine wpList_nil ?_; refine qo.at ?_; try dsimp only
           have rc := row.cells; have q5 : decide ((k : Int) < (areaN c : Int)) = true := decide_eq_true (by omega); have q6 : decide (k < areaN c) = true := decide_eq_true hka; gi_upto_region 22 with fail
           try have lx_p7 := p7.lt
           try have lx_c8 := c8.lt
           try have lx_i9 := i9.lt
           try have lx_f6 := f6.lt
           try have lx_r3 := r3.lt
           try have lx_row := row.lt
           try have lx_rc := rc.lt
           refine Yx (by kernel_rfl) 12 [(10, z2 ?v2_10)] (by kernel_rfl) (by kernel_rfl) (by kernel_rfl) ?_
           rotate_left 1
           simp only [xB, Nat.reduceAdd]; refine crq 10 ?_; repeat (first | go_big_quiet_skip | (go_big_quiet_want; first | ((first | refine zn (t := 115) rfl _ _ _ rfl (fun w hw => jU (wV (zB i9 w hw))) (by first | rfl | omega) ?_ | refine zn (t := 114) rfl _ _ _ rfl (fun w hw => YF (zB f6 w hw)) (by rfl) ?_ | refine zn (t := 28) rfl _ _ _ rfl (fun w hw => (jT rc w hw).load Tryz.isAgg28 HP.out) (by first | rfl | omega) ?_ | refine qB ?_ | refine qC ?_); simp only [zo]; go_big_quiet_on) | (go_big_quiet_op; go_big_quiet_on)))
           refine wpQuiet_nil ?_; refine zL (by rfl) (by first | rfl | simp [Region.wanted, yielded]) ?_ ?_
           ·intro wn za hE Kx hKx
            have zf := B.size; have zg := za.size; replace B := B.trans (za.mono B.size)
            (try replace p7 := p7.below za)
            (try replace c8 := c8.below za)
            (try replace i9 := i9.below za)
            (try replace f6 := f6.below za)
            (try replace r3 := r3.below za)
            (try replace row := row.below za)
            (try replace rc := rc.below za)
            refine YZ rfl (by simp only [Act.eval, qQ]; rfl) HEN.out (by simp only [Act.eval, qQ]; rfl) ?_
            refine (HCH.out wn p q n r3 OKP.out hnb HQ.out).mono ?_; rintro e wm ⟨rfl, zl⟩; refine ⟨_, rfl, ?_⟩; have hz := hKx () wm trivial zl
            dsimp only [z2] at hz
            exact hz
           rintro ⟨⟩
           dsimp only [z2]
           simp only [zo]; refine crk 1 ?_; refine qP ?_; intro wn za hE; have zf := B.size; have zg := za.size; replace B := B.trans (za.mono B.size)
           (try replace p7 := p7.below za)
           (try replace c8 := c8.below za)
           (try replace i9 := i9.below za)
           (try replace f6 := f6.below za)
           (try replace r3 := r3.below za)
           (try replace row := row.below za)
           (try replace rc := rc.below za)
           clear hE; try simp only [List.drop_succ_cons, List.drop_zero]
           clear rc
           (refine vr rfl _ _ rfl _ _ rfl q rfl row k hkR (by first | rfl | omega) (stK B (by omega) ?_); clear row B; intro wn row ze zf zg B; (try replace p7 := p7.of_eq (ze.block _ p7.lt (by omega))); (try replace c8 := c8.of_eq (ze.block _ c8.lt (by omega))); (try replace i9 := i9.of_eq (ze.block _ i9.lt (by omega))); (try replace f6 := f6.of_eq (ze.block _ f6.lt (by omega))); (try replace r3 := r3.of_eq (ze.block _ r3.lt (by omega))); simp only [zo])
           refine wpList_nil ?_; refine zN.normal ?_; refine qo.at ?_; try dsimp only
           rw [HSET.out] at row; gi_upto_region 23 with fail
           refine zG (by kernel_rfl) ?_; refine chk 3 ?_; refine wpList_nil ?_; refine qo.at ?_; try dsimp only
           gi_upto_region 19 with fail
           refine zG (by kernel_rfl) ?_; refine chk 3 ?_; refine wpList_nil ?_; refine qo.at ?_; try dsimp only
           gi_wp2
           go_roundw
           case rel => exact ⟨j + 1, k + 1, _, by omega, Lib.hid (by rw [HK.out, Nat.add_assoc]), by go_num, by go_num, Lib.hid rfl, B, p7, c8, i9, f6, r3, row⟩
           case measure => simp [intOf]; omega
          ·have q4 : decide (0 < n) = false := decide_eq_false hn0
           have q4' : decide (n > 0) = false := decide_eq_false hn0; rw [VB, if_neg hn0] at hsame; have HSAME := Lib.hid (hsame rfl); clear hset hsame; gi_upto_region 21 with fail
           refine zG (by kernel_rfl) ?_; refine chk 2 ?_; refine wpList_nil ?_; refine qo.at ?_; try dsimp only
           gi_upto_region 23 with fail
           refine zG (by kernel_rfl) ?_; refine chk 3 ?_; refine wpList_nil ?_; refine qo.at ?_; try dsimp only
           gi_upto_region 19 with fail
           refine zG (by kernel_rfl) ?_; refine chk 3 ?_; refine wpList_nil ?_; refine qo.at ?_; try dsimp only
           gi_wp2
           go_roundw
           case rel => exact ⟨j + 1, k + 1, R, by omega, Lib.hid (by rw [HK.out, Nat.add_assoc]), by go_num, by go_num, HSAME, B, p7, c8, i9, f6, r3, row⟩
           case measure => simp [intOf]; omega
         ·have q3 : decide (c.x0 + (j : Int) < c.x1) = false := decide_eq_false (by omega)
          have HKN := Lib.hid (show k = (i + 1) * Wd from by rw [Nat.add_mul, Nat.one_mul, HK.out]; omega)
          gi_upto_region 18 with fail
          refine zG (by kernel_rfl) ?_; refine chk 4 ?_
          refine wpList_nil ?_; refine qo.at ?_; try dsimp only
          gi_upto_region 16 with fail
          refine zG (by kernel_rfl) ?_; refine chk 3 ?_; refine wpList_nil ?_; refine qo.at ?_; try dsimp only
          gi_wp2
          go_roundw
          case rel => exact ⟨i + 1, k, R, by omega, HKN, rfl, by go_num, HR, B, p7, c8, i9, f6, r3, row⟩
          case measure => simp [intOf]; omega
       ·have q2 : decide (c.y0 + (i : Int) < c.y1) = false := decide_eq_false (by omega)
        have hiH : i = (c.y1 - c.y0).toNat := by omega
        have hkA : k = areaN c := by rw [HK.out, HAW.out, HWD.out, hiH, Nat.mul_comm]
        have hRI : R = I := by rw [← HR.out, hkA, zbx, ← HI.out]
        subst hRI; clear hkA hiH HR; gi_upto_region 15 with fail
        refine zG (by kernel_rfl) ?_; refine chk 4 ?_
        refine wpList_nil ?_; refine qo.at ?_; try dsimp only
        gi_upto_region 24 with fail
        have r2 := R2W.out.of_eq (B.block _ l2); have rs1 := RS1W.out.below B; have hu := row.rs; rw [hIn] at hu; have hA2 := HA.out; gi_upto_region 24 with fail
        refine zG (by kernel_rfl) ?_; refine chq 2 ?_
        repeat (first | go_big_quiet_skip | (go_big_quiet_want; first | ((first | refine zn (t := 117) rfl _ _ _ rfl (fun w hw => uH (zB i9 w hw)) (by first | rfl | omega) ?_ | refine qB ?_ | refine qC ?_); simp only [zo]; go_big_quiet_on) | (go_big_quiet_op; go_big_quiet_on)))
        refine wpQuiet_nil ?_; refine clF (enters_of Tryz.func77 (by kernel_rfl) rfl) (c := zaG _ M R' E c _ R _ rs1 TM.out (by unfold maxLen; omega) hu (by rw [hIn]; unfold maxLen; omega) OKI.out HR'.out HEe.out) (h := ?_)
        rintro e wn ⟨a5, c5, rfl, rs5, za⟩; have zf := B.size; have zg := za.size; replace B := B.trans (za.mono B.size)
        (try replace r2 := r2.below za)
        (try replace f6 := f6.below za)
        (try replace r3 := r3.below za)
        clear rs1 hu row; refine ⟨_, rfl, ?_⟩; simp only [zo]; refine chk 3 ?_
        (refine zr (t := 64) rfl _ (ql _ _ rfl) (alK B ?_); clear B; intro b_t15 wn zb zd t15 za zf zk B; (try have zh := r2.lt); (try replace r2 := r2.below (za.mono zb)); (try have zh := i9.lt); (try have zh := f6.lt); (try replace f6 := f6.below (za.mono zb)); (try have zh := r3.lt); (try replace r3 := r3.below (za.mono zb)); (try have zh := rs5.lt); (try replace rs5 := rs5.below (za.mono zb)); simp only [zo])
        (refine zq (t := 64) rfl _ _ rfl _ rfl _ rfl t15 (by kernel_rfl) rfl (by simp [Value.oneCell']) (stK B (by omega) ?_); have t15o := t15; clear t15 B; intro wn t15 ze zf zg B; (try replace rs5 := rs5.chg t15o (by simp) ze); (try replace r2 := r2.of_eq (ze.block _ r2.lt (by omega))); (try replace f6 := f6.of_eq (ze.block _ f6.lt (by omega))); (try replace r3 := r3.of_eq (ze.block _ r3.lt (by omega))); simp only [zo])
        refine chk 1 ?_; refine wpList_nil ?_; refine qo.at ?_; try dsimp only
        have hrs5 : R'.length ≤ R'.length := Nat.le_refl _; have hws5 := B.size; by_cases hE0 : E = 0
        ·subst hE0
         gi_upto_region 25 with fail
         refine zG (by kernel_rfl) ?_; refine chk 2 ?_; refine wpList_nil ?_; refine qo.at ?_; try dsimp only
         gi_upto_region 27 with fail
         refine zG (by kernel_rfl) ?_; refine chk 1 ?_
         (refine zq (t := 64) rfl _ _ rfl _ rfl _ rfl r2 (by kernel_rfl) rfl (by simp [Value.oneCell']) ?_; intro wn ht ze zg; have r2o := r2; clear r2; have r2 := ht; clear ht; simp only [zo])
         refine wpList_nil ?_; refine qo.at ?_; try dsimp only
         gi_wp2
         have CH := (Chg.of_below (b := b_r2) B).trans ze; refine ⟨KeepsOthers.chgB CH R2W.out, (KpW.below B).trans (KpW.exc ze.size (fun j h1 h2 => ze.block j h1 h2) r2o (by decide)), a5, c5, R', Lib.hid ?_, r2, rs5.chg r2o (by simp) ze, r3.of_eq (ze.block _ r3.lt (by omega)), ?_, ?_, f6.of_eq (ze.block _ f6.lt (by omega)), ?_, Chg.below (BWW.out.trans (B.mono hws)) ze k2 (Nat.le_trans hws hws5)⟩
         ·rw [HS2.out, HR'.out, HEe.out]
         ·have h4 := R4W.out.of_eq (B.block _ l4)
          exact h4.of_eq (ze.block _ h4.lt (by omega))
         ·have h5 := E5W.out.of_eq (B.block _ l5)
          exact h5.of_eq (ze.block _ h5.lt (by omega))
         ·have h0 := LMW.out.below B
          exact h0.of_eq (ze.block _ h0.lt (by omega))
        ·have q7 : (E != 0) = true := by simpa using hE0
         gi_upto_region 25 with fail
         refine zG (by kernel_rfl) ?_; refine chk 2 ?_; refine wpList_nil ?_; refine qo.at ?_; try dsimp only
         have r4 := R4W.out.of_eq (B.block _ l4); have e5 := E5W.out.of_eq (B.block _ l5); have BE := BWW.out.trans (B.mono hws); have KE := KeepsOthers.below B; gi_upto_region 26 with fail
         refine zG (by kernel_rfl) ?_
         (refine qz rfl (.agg #[.slice none 0 0]) (by kernel_rfl) ?_; simp only [zo])
         refine chk 1 ?_
         (refine zq (t := 64) rfl _ _ rfl _ rfl _ rfl r4 (by kernel_rfl) rfl (by simp [Value.oneCell']) ?_; have HTO := r4; clear r4; intro wn ht ze zg; replace zg := Nat.le_of_eq zg.symm; replace BE := Chg.below BE ze (by omega) BE.size; replace KE := KE.trans (KeepsOthers.chgB ze HTO); (try replace e5 := e5.of_eq (ze.block _ e5.lt (by omega))); have r4 := ht; clear ht; simp only [zo])
         (refine vP rfl _ _ rfl _ rfl _ rfl e5 ?_; have HTO := e5; clear e5; intro wn ht ze zg; replace zg := Nat.le_of_eq zg.symm; replace BE := Chg.below BE ze (by omega) BE.size; replace KE := KE.trans (KeepsOthers.chgB ze HTO); (try replace r4 := r4.of_eq (ze.block _ r4.lt (by omega))); have e5 := ht; clear ht; simp only [zo])
         refine wpList_nil ?_; refine qo.at ?_; try dsimp only
         gi_wp2
         exact ⟨KE, rfl, E, Lib.hid ⟨by rw [HS2.out, HEe.out], hE0⟩, r4, e5, BE⟩
end Go.Proofs.YtepelndbbhdofaaGreatDoor
/- Contracts: Paint of package stroke, refused; Paint of its reference. -/
namespace Go.Proofs.YtepelndbbhdofaaGreatDoor
open Go.RowKit Go.Shelf Pl
set_option linter.unusedVariables false
set_option linter.unusedSimpArgs false
set_option maxRecDepth 20000
theorem Y4 (v vs : Value) (s : Stk) (ls : List TA) (w : World) (h : RS v ls w) (rs : RSE spE vs s.pts w) (hn : s.pts.length ≤ 17592186044416) (hv : jC s = false) : Calls Tryz.prog 30 #[.agg #[v], .agg (stC vs s)] w fun e w' => e = .returned (.tuple #[.agg #[.slice none 0 0], .int .i64 1]) ∧ Below w.heap.size w w' := by
 have B := Below.refl w.heap.size w
 have HV0 := Lib.hid hv
 obtain ⟨ad, cd, rfl, hcd⟩ := rs.len
 obtain ⟨a, c, rfl, hc⟩ := h.len
 clear hv h
 go_enter Tryz.func30, Tryz.ntmps30
 go_upto_region 0 with fail
 refine wp_region_lit ?_
 (refine zt (t := 64) rfl _ rfl _ rfl (alK B ?_); clear B; intro b_r2 wn zb zd r2 za zf zk B; (try have zh := rs.lt); (try replace rs := rs.below (za.mono zb)); simp only [zo])
 (refine zt (t := 30) rfl _ rfl _ rfl (alK B ?_); clear B; intro b_r3 wn zb zd r3 za zf zk B; (try have zh := r2.lt); (try have zh := rs.lt); (try replace rs := rs.below (za.mono zb)); simp only [zo])
 (refine zr (t := 64) rfl _ (ql _ _ rfl) (alK B ?_); clear B; intro b_r4 wn zb zd r4 za zf zk B; (try have zh := r2.lt); (try have zh := r3.lt); (try replace r3 := r3.below (za.mono zb)); (try have zh := rs.lt); (try replace rs := rs.below (za.mono zb)); simp only [zo])
 (refine zr (t := 53) rfl _ (uF _ _ rfl) (alK B ?_); clear B; intro b_e5 wn zb zd e5 za zf zk B; (try have zh := r2.lt); (try have zh := r3.lt); (try replace r3 := r3.below (za.mono zb)); (try have zh := r4.lt); (try replace r4 := r4.below (za.mono zb)); (try have zh := rs.lt); (try replace rs := rs.below (za.mono zb)); simp only [zo])
 refine wpList_nil ?_
 have k5 : b_r4 < b_e5 := by have := r4.lt; omega
 go_upto_region 1 with fail
 refine wp_region_lit ?_
 refine chk 1 ?_
 refine clF (enters_of Tryz.func16 (by kernel_rfl) rfl) (c := xr _ s false _ rs hn HV0.out) (h := ?_)
 rintro e wn ⟨rfl, za⟩
 have zf := B.size
 have zg := za.size
 replace B := B.trans (za.mono B.size)
 (try replace r4 := r4.below za)
 (try replace e5 := e5.below za)
 refine ⟨_, rfl, ?_⟩
 simp only [zo]
 refine chk 1 ?_
 refine wpList_nil ?_
 go_upto_region 2 with fail
 refine wp_region_lit ?_
 (refine qz rfl (.agg #[.slice none 0 0]) (by kernel_rfl) ?_; simp only [zo])
 (refine zq (t := 64) rfl _ _ rfl _ rfl _ rfl r4 (by kernel_rfl) rfl (by simp [Value.oneCell']) (stK B (by omega) ?_); clear r4 B; intro wn r4 ze zf zg B; (try replace e5 := e5.of_eq (ze.block _ e5.lt (by omega))); simp only [zo])
 (refine vP rfl _ _ rfl _ rfl _ rfl e5 (stK B (by omega) ?_); clear e5 B; intro wn e5 ze zf zg B; (try replace r4 := r4.of_eq (ze.block _ r4.lt (by omega))); simp only [zo])
 refine wpList_nil ?_
 first | (refine bodyPost_ret (xk (t := 64) (u := 53) rfl _ _ b_r4 b_e5 rfl rfl r4 (jR e5) Tryz.isAgg64 (by kernel_rfl)) rfl ?_) | (go_step; refine bodyPost_ret (xk (t := 64) (u := 53) rfl _ _ b_r4 b_e5 rfl rfl r4 (jR e5) Tryz.isAgg64 (by kernel_rfl)) rfl ?_) | (go_step; go_step; refine bodyPost_ret (xk (t := 64) (u := 53) rfl _ _ b_r4 b_e5 rfl rfl r4 (jR e5) Tryz.isAgg64 (by kernel_rfl)) rfl ?_) | (go_step; go_step; go_step; refine bodyPost_ret (xk (t := 64) (u := 53) rfl _ _ b_r4 b_e5 rfl rfl r4 (jR e5) Tryz.isAgg64 (by kernel_rfl)) rfl ?_) | (go_step; go_step; go_step; go_step; refine bodyPost_ret (xk (t := 64) (u := 53) rfl _ _ b_r4 b_e5 rfl rfl r4 (jR e5) Tryz.isAgg64 (by kernel_rfl)) rfl ?_) | (go_step; go_step; go_step; go_step; go_step; refine bodyPost_ret (xk (t := 64) (u := 53) rfl _ _ b_r4 b_e5 rfl rfl r4 (jR e5) Tryz.isAgg64 (by kernel_rfl)) rfl ?_)
 exact ⟨rfl, B⟩
/-- Paint of package stroke. -/
theorem ue (v vs : Value) (s : Stk) (ls ks : List TA) (E : Int) (w : World) (lm : xx w) (h : RS v ls w) (tk : qH ls) (hn : ls.length ≤ maxLen) (rs : RSE spE vs s.pts w) (hn2 : s.pts.length ≤ 17592186044416) (hcol : s.col.ok) (e : qt s ls = (ks, E)) : Calls Tryz.prog 30 #[.agg #[v], .agg (stC vs s)] w fun e w' => ∃ a cp, e = .returned (.tuple #[.agg #[.slice a ks.length cp], .int .i64 E]) ∧ RS (.slice a ks.length cp) ks w' ∧ Below w.heap.size w w' := by
 cases hv : jC s with
 | true =>
  have := Y5 v vs s ls w lm h tk hn rs hv hcol; rw [e] at this; exact this
 | false =>
  have e1 : qt s ls = ([], 1) := if_neg (by rw [hv]; simp)
  rw [e1] at e
  injection e with e1 e2
  subst e1 e2; exact (Y4 v vs s ls w h rs hn2 hv).mono fun e w' ⟨h1, h2⟩ => ⟨none, 0, h1, RS.nil _, h2⟩
/-! ### The reference -/
/-- The pixels so far. -/
def zgD (c : Rc) (F : Int → Int → Px) (k : Nat) : List Px := (List.range k).map fun j => F (pxX c j) (pxY c j)
end Go.Proofs.YtepelndbbhdofaaGreatDoor
/- The values of the sanity check of chapter 14's laws; slice literals; line. -/
namespace Go.Proofs.YtepelndbbhdofaaGreatDoor
open Go.RowKit Go.Shelf Pl Sha
set_option linter.unusedVariables false
set_option linter.unusedSimpArgs false
set_option maxRecDepth 20000
section
variable {α : Type} {k : Nat} {T ST : TypeId} {E : Elt α k T ST}
theorem Ws (ls : List α) (cs : Array Value) (hs : cs.size = ls.length * k) : Instr.fill (fun i => some (i * k, k)) cs (((ls.map fun x => Value.agg (E.enc x)).zipIdx 0).map fun y => (y.2, y.1)) = some (xF E ls).toArray := by
 obtain ⟨r, hr1, hr2, hr3⟩ := Great.fill_dense E.pos (ls.map fun x => Value.agg (E.enc x)) 0 cs (fun v hv => by obtain ⟨x, _, rfl⟩ := List.mem_map.1 hv; simp only [Value.cells, E.size]) (by rw [List.length_map, hs, Nat.zero_add]; exact Nat.le_refl _)
 rw [hr1]
 congr 1
 apply Array.ext_getElem?
 intro j
 have hr : (xF E ls).toArray[j]? = (xF E ls)[j]? := by rw [List.getElem?_toArray]
 rw [hr3 j, List.length_map, hr, Nat.zero_add]
 by_cases h : j < ls.length * k
 ·obtain ⟨h1, h2, h3⟩ := wT E.pos h
  have hx : ls[j / k]? = some ls[j / k] := List.getElem?_eq_getElem h1; have h4 := uD E ls (j / k) _ hx (j % k) h2; rw [← h3] at h4; rw [if_pos ⟨by rw [Nat.zero_mul]; omega, h⟩, h4, Nat.sub_zero, List.getElem?_map, hx]
  simp only [Option.map_some, Option.bind_some, Value.cells]
 ·rw [if_neg (fun h' => h h'.2), Array.getElem?_eq_none (by rw [hs]; exact Nat.le_of_not_lt h), List.getElem?_eq_none (by rw [xl]; exact Nat.le_of_not_lt h)]
variable {ops : Array Oper} {rest : List Oper} {o : Oper} {a : Act} {w : World} {Q : Exit → Act → World → Prop}
theorem zbQ {K : Act → World → Prop} (n : Nat) (ps : Array (Nat × Operand)) (ho : o.op = .buildSlice ST n ps) (ls : List α) (hl : ls.length = n) (hp : (ps.map fun (i, x) => (i, a.eval x)).toList = ((ls.map fun x => Value.agg (E.enc x)).zipIdx 0).map fun y => (y.2, y.1)) (hn : 0 < n) (hk : n * k ≤ 1000)
  (h : ∀ b w', w.heap.size ≤ b → b ≤ w.heap.size → jo E w' b ls → Below b w w' → w'.heap.size = b + 1 → K (a.put o.dst (.slice (some ⟨b, 0, none⟩) n n)) w') : o.wp Tryz.prog a w K Q := by
 obtain ⟨i, z, hi, hz, zf, hby, hzc⟩ := E.facts
 have hp0 := Nat.mul_pos hn E.pos
 refine wp_buildSlice ST T n ps ho (xF E ls).toArray i z E.und hi hz (by rw [zf]; omega) (by rw [zf]; omega) ?_ (h _ _ (Nat.le_refl _) (Nat.le_refl _) (by unfold jo AtB; rw [zO, if_pos rfl]) ((Below.refl _ _).alloc (Nat.le_refl _) _) (World.size_alloc _ _))
 rw [zf, hp]
 exact Ws ls _ (by rw [hl]; simp)
theorem Zv (hw : Region.wanted o (yielded ops a.tmps) = true) (n : Nat) (ps : Array (Nat × Operand)) (ho : o.op = .buildSlice ST n ps) (ls : List α) (hl : ls.length = n) (hp : (ps.map fun (i, x) => (i, a.eval x)).toList = ((ls.map fun x => Value.agg (E.enc x)).zipIdx 0).map fun y => (y.2, y.1)) (hn : 0 < n) (hk : n * k ≤ 1000)
  (h : ∀ b w', w.heap.size ≤ b → b ≤ w.heap.size → jo E w' b ls → Below b w w' → w'.heap.size = b + 1 → wpList Tryz.prog ops Q rest (a.put o.dst (.slice (some ⟨b, 0, none⟩) n n)) w') : wpList Tryz.prog ops Q (o :: rest) a w := by
 unfold wpList
 rw [if_pos hw]
 exact .inl (zbQ n ps ho ls hl hp hn hk h)
end
/-! ### The example -/
def qJ : Stk := ⟨[⟨0, 0, 255⟩, ⟨100, 0, 255⟩, ⟨100, 30, 255⟩], 16, 40, ⟨200, 0, 0, 255⟩, false, 10⟩
def vq : List Db := [⟨10, 0, 16⟩, ⟨50, 0, 16⟩, ⟨90, 0, 16⟩]
theorem ln1 : jC qJ = true := by decide +kernel
theorem ln2 : vm qJ = vq := by decide +kernel
theorem ln3 : (spB qJ 1).pha = 30 := by decide +kernel
theorem ln4 : vm (spB qJ 1) = [] := by decide +kernel
theorem ln5 : vt ⟨8, 8, 8⟩ 0 0 = 191 := by decide +kernel
theorem ln6 : zd0 qJ = ⟨-1, -1, 7, 2⟩ := by decide +kernel
theorem ln7 : jC zSt = false := by decide +kernel
theorem ln8 : wD [] = (zSt, 10) := QA (by decide)
theorem kC : qJ.col.ok := by unfold Px.ok qJ; simp
theorem ln9 : wD (xZ qJ) = (qJ, 0) := KM ((jD _).1 ln1) kC
def za1 : Rc := ⟨-1, -1, 1, 1⟩
theorem Kr : ∀ d ∈ vq, okD d ∧ zai za1 d := fun d hd => by
 have hc : d = ⟨10, 0, 16⟩ ∨ d = ⟨50, 0, 16⟩ ∨ d = ⟨90, 0, 16⟩ := by simpa [vq] using hd
 rcases hc with rfl | rfl | rfl
 ·refine ⟨by unfold okD; decide, fun _ x y h => ?_⟩
  have e : tlR (sqC ⟨10, 0, 16⟩) = ⟨-1, -1, 1, 1⟩ := by decide +kernel
  rw [e] at h; exact h
 ·refine ⟨by unfold okD; decide, fun _ x y h => ?_⟩
  have e : tlR (sqC ⟨50, 0, 16⟩) = ⟨0, -1, 1, 1⟩ := by decide +kernel
  rw [e] at h; rw [jr] at h ⊢; unfold za1; simp only at h ⊢; omega
 ·refine ⟨by unfold okD; decide, fun _ x y h => ?_⟩
  have e : tlR (sqC ⟨90, 0, 16⟩) = ⟨0, -1, 1, 1⟩ := by decide +kernel
  rw [e] at h; rw [jr] at h ⊢; unfold za1; simp only at h ⊢; omega
theorem Wj : jZ za1 := by unfold za1; refine ⟨?_, ?_, ?_, ?_, ?_, ?_, ?_, ?_⟩ <;> (simp only; omega)
theorem zbD : (jN qJ vq []).2 = 0 := (uq (s := qJ) Wj (by decide) vq [] (fun d h => (Kr d h).1) (fun d h => (Kr d h).2) jB (fun e h => by cases h)).1
theorem Wt : qf [] = [] := xe jB
theorem zds : jh qJ = vq := by
 have := ln2
 unfold vm at this
 rw [ln1] at this
 exact this
theorem X8 : qt qJ [] = jN qJ vq [] := by
 unfold qt
 rw [if_pos ln1, zds, Wt]
theorem zf2 : (qt qJ []).2 = 0 := by rw [X8]; exact zbD
theorem zf3 : (xM (qt qJ []).1 0 0).a > 0 := by
 rw [X8, X4 kC 0 0 vq [] (fun d h => (Kr d h).1) jB qH.nil zbD]
 decide +kernel
/- line, sanity of chapter 14's laws. -/
set_option maxHeartbeats 1000000 in
theorem yR (w : World) : Calls Tryz.prog 48 #[] w fun e w' => ∃ b, e = .returned (.agg (stC (.slice (some ⟨b, 0, none⟩) 3 3) qJ)) ∧ RSE spE (.slice (some ⟨b, 0, none⟩) 3 3) qJ.pts w' ∧ Below w.heap.size w w' := by
 have B := Below.refl w.heap.size w
 go_enter Tryz.func48, Tryz.ntmps48
 go_upto_region 0 with fail
 refine wp_region_lit ?_
 (refine zr (t := 30) rfl _ (zJ _ _ rfl) (alK B ?_); clear B; intro b_r0 wn zb zd r0 za zf zk B; simp only [zo])
 refine wpList_nil ?_
 have hr0 := r0.lt
 go_upto_region 1 with fail
 refine wp_region_lit ?_
 (refine qz rfl (.agg #[.int .i64 0, .int .i64 0, .int .i64 255]) (by first | rfl | kernel_rfl | simp [go_sem, Act.eval]) ?_; simp only [zo])
 (refine qz rfl (.agg #[.int .i64 100, .int .i64 0, .int .i64 255]) (by first | rfl | kernel_rfl | simp [go_sem, Act.eval]) ?_; simp only [zo])
 (refine qz rfl (.agg #[.int .i64 100, .int .i64 30, .int .i64 255]) (by first | rfl | kernel_rfl | simp [go_sem, Act.eval]) ?_; simp only [zo])
 (refine Zv (E := spE) (by first | rfl | simp [Region.wanted, yielded]) 3 _ rfl qJ.pts rfl (by simp only [Act.eval, qQ]; rfl) (by omega) (by omega) (alK B ?_); clear B; intro b_row wn zb zd row za zf zk B; (try have zh := r0.lt); (try replace r0 := r0.below (za.mono zb)); simp only [zo])
 (refine qz rfl (.agg #[.int .u8 200, .int .u8 0, .int .u8 0, .int .u8 255]) (by first | rfl | kernel_rfl | simp [go_sem, Act.eval]) ?_; simp only [zo])
 (refine qz rfl (.agg (stC (.slice (some ⟨b_row, 0, none⟩) 3 3) qJ)) (by first | rfl | kernel_rfl | simp [go_sem, Act.eval]) ?_; simp only [zo])
 (refine zq (t := 30) rfl _ _ rfl _ rfl _ rfl r0 (by kernel_rfl) rfl (by simp [stC, Value.oneCell']) (stK B (by omega) ?_); clear r0 B; intro wn r0 ze zf zg B; replace row := row.of_eq (ze.block _ row.lt (by omega)); simp only [zo])
 refine wpList_nil ?_
 first | (refine bodyPost_ret (zC (t := 30) rfl _ _ (b_r0) rfl r0 Tryz.isAgg30 (by kernel_rfl)) rfl ?_) | (go_step; refine bodyPost_ret (zC (t := 30) rfl _ _ (b_r0) rfl r0 Tryz.isAgg30 (by kernel_rfl)) rfl ?_) | (go_step; go_step; refine bodyPost_ret (zC (t := 30) rfl _ _ (b_r0) rfl r0 Tryz.isAgg30 (by kernel_rfl)) rfl ?_) | (go_step; go_step; go_step; refine bodyPost_ret (zC (t := 30) rfl _ _ (b_r0) rfl r0 Tryz.isAgg30 (by kernel_rfl)) rfl ?_) | (go_step; go_step; go_step; go_step; refine bodyPost_ret (zC (t := 30) rfl _ _ (b_r0) rfl r0 Tryz.isAgg30 (by kernel_rfl)) rfl ?_) | (go_step; go_step; go_step; go_step; go_step; refine bodyPost_ret (zC (t := 30) rfl _ _ (b_r0) rfl r0 Tryz.isAgg30 (by kernel_rfl)) rfl ?_)
 exact ⟨_, rfl, row.rs, B⟩
/-- Split of the example. -/
theorem zbE (v : Value) (w : World) (rs : RSE spE v qJ.pts w) : Calls Tryz.prog 26 #[.agg (stC v qJ), .int .i64 1] w fun e w' => ∃ aa na ca ab nb cb, e = .returned (.tuple #[.agg (stC (.slice aa na ca) (spA qJ 1)), .agg (stC (.slice ab nb cb) (spB qJ 1)), .int .i64 0]) ∧ RSE spE (.slice ab nb cb) (spB qJ 1).pts w' ∧ Below w.heap.size w w' :=
 (ZY v qJ 1 w rs ln1 (by omega) (by decide)).mono fun e w' ⟨va, vb, h1, h2, h3, h4⟩ => by
  obtain ⟨aa, ca, rfl, _⟩ := h2.len; obtain ⟨ab, cb, rfl, _⟩ := h3.len; exact ⟨_, _, _, _, _, _, h1, h3.rs, h4⟩
def lnK : List TA := (qt qJ []).1
theorem lnP : qt qJ [] = (lnK, 0) := Prod.ext rfl zf2
def lnY : List UInt8 := xZ qJ
theorem zdr : lnY.length ≤ 100000000 := by
 have e : xZ qJ = qW qJ := by unfold xZ; rw [ln1]; rfl
 show (xZ qJ).length ≤ _
 rw [e, Z9]
 decide
theorem zdv (w : World) : Calls Tryz.prog 34 #[.string (ofL lnY)] w fun e w' => ∃ a n c, e = .returned (.tuple #[.agg (stC (.slice a n c) qJ), .int .i64 0]) ∧ RSE spE (.slice a n c) qJ.pts w' ∧ Below w.heap.size w w' :=
 (K5 lnY qJ 0 w zdr ln9).mono fun e w' ⟨v, h1, h2, h3⟩ => by
  obtain ⟨a, c, rfl, _⟩ := h2.len; exact ⟨_, _, _, h1, h2, h3⟩
theorem zdu (w : World) : Calls Tryz.prog 34 #[.string { data := #[] }] w fun e w' => ∃ a n c, e = .returned (.tuple #[.agg (stC (.slice a n c) zSt), .int .i64 10]) ∧ Below w.heap.size w w' :=
 (K5 [] zSt 10 w (by simp) ln8).mono fun e w' ⟨v, h1, h2, h3⟩ => by
  obtain ⟨a, c, rfl, _⟩ := h2.len; exact ⟨_, _, _, h1, h3⟩
theorem Qn : qJ.pts.length ≤ 17592186044416 := by decide
theorem zdt : (spB qJ 1).pts.length ≤ 17592186044416 := by decide
theorem zdq : lnK.length ≤ maxLen := by
 have := Zg (s := qJ) kC (ls := []) qH.nil
 have := (jX.1 this.1).1
 unfold lnK maxLen
 omega
/-! ### Rectangles compared -/
theorem XW (d : Nat) (a b : Rc) (w : World) : (Op.equalIn (d + 2) 38 (.agg (rcA a)) (.agg (rcA b))).run Tryz.prog w = .ok (decide (a = b)) w := by
 obtain ⟨x, y, z, u⟩ := a
 obtain ⟨x', y', z', u'⟩ := b
 have h : (Op.equalIn (d + 2) 38 (.agg #[.int .i64 x, .int .i64 y, .int .i64 z, .int .i64 u]) (.agg #[.int .i64 x', .int .i64 y', .int .i64 z', .int .i64 u'])).run Tryz.prog w = .ok (x == x' && (y == y' && (z == z' && u == u'))) w := by
  by_cases h1 : x = x' <;> by_cases h2 : y = y' <;> by_cases h3 : z = z' <;> by_cases h4 : u = u' <;> simp [go_sem, h1, h2, h3, h4]
 refine h.trans ?_
 congr 1
 rw [Bool.eq_iff_iff]
 simp
theorem zde (a b : Rc) (w : World) : (binOp .eql 38 (.agg (rcA a)) (.agg (rcA b))).run Tryz.prog w = .ok (.bool (decide (a = b))) w := by
 have h := run_eql_struct (P := Tryz.prog) w 38 (rcA a) (rcA b)
 rw [h, XW 9998 a b w]; rfl
theorem jH {o : Oper} {a : Act} {C : World → Prop} {K : Act → Prop} {p q : Operand} {t2 : TypeId} (h : o.op = .binOp .eql 38 p q t2) (x y : Rc) (hx : a.eval p = .agg (rcA x)) (hy : a.eval q = .agg (rcA y)) (b : Bool) (hb : decide (x = y) = b) (hk : K (a.put o.dst (.bool b))) : o.quiet Tryz.prog a C K :=
 ⟨_, fun w hw => by
  have hg : (eqGuard .eql 38 p q (.agg (rcA x)) (.agg (rcA y))).run Tryz.prog w = .ok () w := run_eqGuard_agg w _ 38 p q _ _ (by kernel_rfl); unfold Oper.quietAt execOp; simp only [h, hx, hy, hg, zde, hb, Sem.run_bind, Sem.run_pure, Result.andThen_ok]; exact ⟨rfl, rfl⟩, hk⟩
def zfc : jF := ⟨Option Addr × Nat, ⟨(none, 0)⟩, fun p => .slice p.1 0 p.2, fun _ _ => True, fun _ _ _ _ h => h⟩
def Jc : jF := ⟨Nat, ⟨0⟩, fun b => .agg (stC (.slice (some ⟨b, 0, none⟩) 3 3) qJ), fun b w => RSE spE (.slice (some ⟨b, 0, none⟩) 3 3) qJ.pts w, fun _ _ _ hb h => h.below hb⟩
set_option maxHeartbeats 4000000 in
theorem zce (w : World) (lm : xx w) : Calls Tryz.prog 13 #[] w fun e w' => e = .returned (.bool true) ∧ Below w.heap.size w w' := by
 have B := Below.refl w.heap.size w
 have q30 : ((spB qJ 1).pha == 30) = true := by rw [ln3]; rfl
 obtain ⟨⟨pr, pg, pb, pa⟩, hpx⟩ : ∃ p, xM lnK 0 0 = p := ⟨_, rfl⟩
 have hpa : pa > 0 := by have := zf3; rw [show (qt qJ []).1 = lnK from rfl, hpx] at this; exact this
 have HPX := Lib.hid hpx
 clear hpx
 have qa : decide (pa > 0) = true := decide_eq_true hpa
 have qa' : decide (0 < pa) = true := decide_eq_true hpa
 have GETC : Hid (∀ v w, RS v lnK w → Calls Tryz.prog 31 #[.agg #[v], .int .i64 0, .int .i64 0] w fun e w' => e = .returned (.agg #[.int .u8 pr, .int .u8 pg, .int .u8 pb, .int .u8 pa]) ∧ Below w.heap.size w w') := Lib.hid fun v w h => by
  have := zd9 v lnK 0 0 w h zdq (Zs (by omega) (by omega)) (Zs (by omega) (by omega)); rw [HPX.out] at this; exact this
 go_enter Tryz.func13, Tryz.ntmps13
 go_upto_region 0 with fail
 refine wp_region_lit ?_
 refine chk 1 ?_
 refine wpList_nil ?_
 go_upto_region 1 with fail
 refine wp_region_lit ?_
 refine clF (enters_of Tryz.func48 (by kernel_rfl) rfl) (c := yR _) (h := ?_)
 rintro e wn ⟨bl, rfl, rl, za⟩
 have zf := B.size
 have zg := za.size
 replace B := B.trans (za.mono B.size)
 (try replace lm := lm.below za)
 (try replace rl := rl.below za)
 refine ⟨_, rfl, ?_⟩
 simp only [zo]
 refine clF (enters_of Tryz.func19 (by kernel_rfl) rfl) (c := ZW _ qJ vq _ rl Qn ln2) (h := ?_)
 rintro e wn ⟨a1, c1, rfl, od, za⟩
 have zf := B.size
 have zg := za.size
 replace B := B.trans (za.mono B.size)
 (try replace lm := lm.below za)
 (try replace rl := rl.below za)
 have rd := od.rs
 clear od rl
 refine ⟨_, rfl, ?_⟩
 simp only [zo]
 refine chk 1 ?_
 refine wpList_nil ?_
 go_upto_region 2 with fail
 refine wp_region_lit ?_
 (refine qz rfl (.agg #[.int .i64 10, .int .i64 0, .int .i64 16]) (by first | rfl | kernel_rfl | simp [go_sem, Act.eval]) ?_; simp only [zo])
 (refine qz rfl (.agg #[.int .i64 50, .int .i64 0, .int .i64 16]) (by first | rfl | kernel_rfl | simp [go_sem, Act.eval]) ?_; simp only [zo])
 (refine qz rfl (.agg #[.int .i64 90, .int .i64 0, .int .i64 16]) (by first | rfl | kernel_rfl | simp [go_sem, Act.eval]) ?_; simp only [zo])
 (refine Zv (E := dbE) (by first | rfl | simp [Region.wanted, yielded]) 3 _ rfl vq rfl (by simp only [Act.eval, qQ]; rfl) (by omega) (by omega) (alK B ?_); clear B; intro b_wr wn zb zd wr za zf zk B; (try have zh := lm.lt); (try replace lm := lm.below (za.mono zb)); (try have zh := rd.lt); (try replace rd := rd.below (za.mono zb)); simp only [zo])
 refine chk 1 ?_
 refine wpList_nil ?_
 go_upto_region 3 with fail
 refine wp_region_lit ?_
 refine clF (enters_of Tryz.func48 (by kernel_rfl) rfl) (c := yR _) (h := ?_)
 rintro e wn ⟨bl, rfl, rl, za⟩
 have zf := B.size
 have zg := za.size
 replace B := B.trans (za.mono B.size)
 (try replace lm := lm.below za)
 (try replace rd := rd.below za)
 (try replace wr := wr.below za)
 (try replace rl := rl.below za)
 refine ⟨_, rfl, ?_⟩
 simp only [zo]
 refine clF (enters_of Tryz.func26 (by kernel_rfl) rfl) (c := zbE _ _ rl) (h := ?_)
 rintro e wn ⟨aa, na, ca, ab, nb, cb, rfl, rb, za⟩
 have zf := B.size
 have zg := za.size
 replace B := B.trans (za.mono B.size)
 (try replace lm := lm.below za)
 (try replace rd := rd.below za)
 (try replace wr := wr.below za)
 (try replace rl := rl.below za)
 clear rl
 refine ⟨_, rfl, ?_⟩
 simp only [zo]
 refine chk 4 ?_
 obtain ⟨wK, hK⟩ : ∃ z, z = wn := ⟨_, rfl⟩
 subst hK
 have BG := B
 have hwsK := BG.size
 have B := Below.refl wK.heap.size wK
 have H_lm := Lib.hid lm
 have H_rd := Lib.hid rd
 have H_wr := Lib.hid wr
 have H_rb := Lib.hid rb
 (refine zr (t := 30) rfl _ (zJ _ _ rfl) (alK B ?_); clear B; intro b_r3 wn zb zd r3 za zf zk B; (try have zh := lm.lt); (try replace lm := lm.below (za.mono zb)); (try have zh := rd.lt); (try replace rd := rd.below (za.mono zb)); (try have zh := wr.lt); (try replace wr := wr.below (za.mono zb)); (try have zh := rb.lt); (try replace rb := rb.below (za.mono zb)); simp only [zo])
 (have _ := r3.lt; refine zr (t := 30) rfl _ (zJ _ _ rfl) (alK B ?_); clear B; intro b_r4 wn zb zd r4 za zf zk B; (try have zh := lm.lt); (try replace lm := lm.below (za.mono zb)); (try have zh := rd.lt); (try replace rd := rd.below (za.mono zb)); (try have zh := wr.lt); (try replace wr := wr.below (za.mono zb)); (try have zh := rb.lt); (try replace rb := rb.below (za.mono zb)); (try have zh := r3.lt); (try replace r3 := r3.below (za.mono zb)); simp only [zo])
 (refine zq (t := 30) rfl _ _ rfl _ rfl _ rfl r3 (by kernel_rfl) rfl (by simp [stC, Value.oneCell']) (stK B (by omega) ?_); clear r3 B; intro wn r3 ze zf zg B; (try replace r4 := r4.of_eq (ze.block _ r4.lt (by omega))); simp only [zo])
 (refine zq (t := 30) rfl _ _ rfl _ rfl _ rfl r4 (by kernel_rfl) rfl (by simp [stC, Value.oneCell']) (stK B (by omega) ?_); clear r4 B; intro wn r4 ze zf zg B; (try replace r3 := r3.of_eq (ze.block _ r3.lt (by omega))); simp only [zo])
 refine chk 1 ?_
 refine wpList_nil ?_
 clear lm
 clear rd
 clear wr
 clear rb
 have lm := by first | exact H_lm.out.below B | exact H_lm.out.of_eq (B.block _ H_lm.out.lt)
 have rd := by first | exact H_rd.out.below B | exact H_rd.out.of_eq (B.block _ H_rd.out.lt)
 have wr := by first | exact H_wr.out.below B | exact H_wr.out.of_eq (B.block _ H_wr.out.lt)
 have rb := by first | exact H_rb.out.below B | exact H_rb.out.of_eq (B.block _ H_rb.out.lt)
 clear H_lm
 clear H_rd
 clear H_wr
 clear H_rb
 have B0 := BG.trans (B.mono hwsK)
 clear B BG hwsK
 have B := B0
 clear B0
 clear r3
 go_upto_region 4 with fail
 refine wp_region_lit ?_
 (refine qz rfl (.agg #[.slice none 0 0]) (by first | rfl | kernel_rfl | simp [go_sem, Act.eval]) ?_; simp only [zo])
 refine clF (enters_of Tryz.func48 (by kernel_rfl) rfl) (c := yR _) (h := ?_)
 rintro e wn ⟨bl, rfl, rl, za⟩
 have zf := B.size
 have zg := za.size
 replace B := B.trans (za.mono B.size)
 (try replace lm := lm.below za)
 (try replace rd := rd.below za)
 (try replace wr := wr.below za)
 (try replace rb := rb.below za)
 (try replace r4 := r4.below za)
 (try replace rl := rl.below za)
 refine ⟨_, rfl, ?_⟩
 simp only [zo]
 refine clF (enters_of Tryz.func30 (by kernel_rfl) rfl) (c := ue _ _ qJ [] lnK 0 _ lm (RS.nil _) qH.nil (Nat.zero_le _) rl Qn kC lnP) (h := ?_)
 rintro e wn ⟨ap, cp, rfl, rk, za⟩
 have zf := B.size
 have zg := za.size
 replace B := B.trans (za.mono B.size)
 (try replace lm := lm.below za)
 (try replace rd := rd.below za)
 (try replace wr := wr.below za)
 (try replace rb := rb.below za)
 (try replace r4 := r4.below za)
 (try replace rl := rl.below za)
 clear rl
 refine ⟨_, rfl, ?_⟩
 simp only [zo]
 refine chk 3 ?_
 obtain ⟨wK, hK⟩ : ∃ z, z = wn := ⟨_, rfl⟩
 subst hK
 have BG := B
 have hwsK := BG.size
 have B := Below.refl wK.heap.size wK
 have H_lm := Lib.hid lm
 have H_rd := Lib.hid rd
 have H_wr := Lib.hid wr
 have H_rb := Lib.hid rb
 have H_r4 := Lib.hid r4
 have H_rk := Lib.hid rk
 (refine zr (t := 64) rfl _ (ql _ _ rfl) (alK B ?_); clear B; intro b_r6 wn zb zd r6 za zf zk B; (try have zh := lm.lt); (try replace lm := lm.below (za.mono zb)); (try have zh := rd.lt); (try replace rd := rd.below (za.mono zb)); (try have zh := wr.lt); (try replace wr := wr.below (za.mono zb)); (try have zh := rb.lt); (try replace rb := rb.below (za.mono zb)); (try have zh := r4.lt); (try replace r4 := r4.below (za.mono zb)); (try have zh := rk.lt); (try replace rk := rk.below (za.mono zb)); simp only [zo])
 (refine zq (t := 64) rfl _ _ rfl _ rfl _ rfl r6 (by kernel_rfl) rfl (by simp [Value.oneCell']) (stK B (by omega) ?_); clear r6 B; intro wn r6 ze zf zg B; simp only [zo])
 refine chk 1 ?_
 refine wpList_nil ?_
 clear lm
 clear rd
 clear wr
 clear rb
 clear r4
 clear rk
 have lm := by first | exact H_lm.out.below B | exact H_lm.out.of_eq (B.block _ H_lm.out.lt)
 have rd := by first | exact H_rd.out.below B | exact H_rd.out.of_eq (B.block _ H_rd.out.lt)
 have wr := by first | exact H_wr.out.below B | exact H_wr.out.of_eq (B.block _ H_wr.out.lt)
 have rb := by first | exact H_rb.out.below B | exact H_rb.out.of_eq (B.block _ H_rb.out.lt)
 have r4 := by first | exact H_r4.out.below B | exact H_r4.out.of_eq (B.block _ H_r4.out.lt)
 have rk := by first | exact H_rk.out.below B | exact H_rk.out.of_eq (B.block _ H_rk.out.lt)
 clear H_lm
 clear H_rd
 clear H_wr
 clear H_rb
 clear H_r4
 clear H_rk
 have B0 := BG.trans (B.mono hwsK)
 clear B BG hwsK
 have B := B0
 clear B0
 go_upto_region 5 with fail
 refine wp_region_lit ?_
 refine clF (enters_of Tryz.func48 (by kernel_rfl) rfl) (c := yR _) (h := ?_)
 rintro e wn ⟨bl, rfl, rl, za⟩
 have zf := B.size
 have zg := za.size
 replace B := B.trans (za.mono B.size)
 (try replace lm := lm.below za)
 (try replace rd := rd.below za)
 (try replace wr := wr.below za)
 (try replace rb := rb.below za)
 (try replace r4 := r4.below za)
 (try replace rk := rk.below za)
 (try replace r6 := r6.below za)
 (try replace rl := rl.below za)
 refine ⟨_, rfl, ?_⟩
 simp only [zo]
 refine clF (enters_of Tryz.func33 (by kernel_rfl) rfl) (c := ZV _ qJ lnY _ rl Qn kC rfl) (h := ?_)
 rintro e wn ⟨rfl, za⟩
 have zf := B.size
 have zg := za.size
 replace B := B.trans (za.mono B.size)
 (try replace lm := lm.below za)
 (try replace rd := rd.below za)
 (try replace wr := wr.below za)
 (try replace rb := rb.below za)
 (try replace r4 := r4.below za)
 (try replace rk := rk.below za)
 (try replace r6 := r6.below za)
 (try replace rl := rl.below za)
 clear rl
 refine ⟨_, rfl, ?_⟩
 simp only [zo]
 refine clF (enters_of Tryz.func34 (by kernel_rfl) rfl) (c := zdv _) (h := ?_)
 rintro e wn ⟨a8, n8, c8, rfl, r8s, za⟩
 have zf := B.size
 have zg := za.size
 replace B := B.trans (za.mono B.size)
 (try replace lm := lm.below za)
 (try replace rd := rd.below za)
 (try replace wr := wr.below za)
 (try replace rb := rb.below za)
 (try replace r4 := r4.below za)
 (try replace rk := rk.below za)
 (try replace r6 := r6.below za)
 refine ⟨_, rfl, ?_⟩
 simp only [zo]
 refine chk 3 ?_
 obtain ⟨wK, hK⟩ : ∃ z, z = wn := ⟨_, rfl⟩
 subst hK
 have BG := B
 have hwsK := BG.size
 have B := Below.refl wK.heap.size wK
 have H_lm := Lib.hid lm
 have H_rd := Lib.hid rd
 have H_wr := Lib.hid wr
 have H_rb := Lib.hid rb
 have H_r4 := Lib.hid r4
 have H_rk := Lib.hid rk
 have H_r6 := Lib.hid r6
 have H_r8s := Lib.hid r8s
 (refine zr (t := 30) rfl _ (zJ _ _ rfl) (alK B ?_); clear B; intro b_r8 wn zb zd r8 za zf zk B; (try have zh := lm.lt); (try replace lm := lm.below (za.mono zb)); (try have zh := rd.lt); (try replace rd := rd.below (za.mono zb)); (try have zh := wr.lt); (try replace wr := wr.below (za.mono zb)); (try have zh := rb.lt); (try replace rb := rb.below (za.mono zb)); (try have zh := r4.lt); (try replace r4 := r4.below (za.mono zb)); (try have zh := rk.lt); (try replace rk := rk.below (za.mono zb)); (try have zh := r6.lt); (try replace r6 := r6.below (za.mono zb)); (try have zh := r8s.lt); (try replace r8s := r8s.below (za.mono zb)); simp only [zo])
 (refine zq (t := 30) rfl _ _ rfl _ rfl _ rfl r8 (by kernel_rfl) rfl (by simp [stC, Value.oneCell']) (stK B (by omega) ?_); clear r8 B; intro wn r8 ze zf zg B; simp only [zo])
 refine chk 1 ?_
 refine wpList_nil ?_
 clear lm
 clear rd
 clear wr
 clear rb
 clear r4
 clear rk
 clear r6
 clear r8s
 have lm := by first | exact H_lm.out.below B | exact H_lm.out.of_eq (B.block _ H_lm.out.lt)
 have rd := by first | exact H_rd.out.below B | exact H_rd.out.of_eq (B.block _ H_rd.out.lt)
 have wr := by first | exact H_wr.out.below B | exact H_wr.out.of_eq (B.block _ H_wr.out.lt)
 have rb := by first | exact H_rb.out.below B | exact H_rb.out.of_eq (B.block _ H_rb.out.lt)
 have r4 := by first | exact H_r4.out.below B | exact H_r4.out.of_eq (B.block _ H_r4.out.lt)
 have rk := by first | exact H_rk.out.below B | exact H_rk.out.of_eq (B.block _ H_rk.out.lt)
 have r6 := by first | exact H_r6.out.below B | exact H_r6.out.of_eq (B.block _ H_r6.out.lt)
 have r8s := by first | exact H_r8s.out.below B | exact H_r8s.out.of_eq (B.block _ H_r8s.out.lt)
 clear H_lm
 clear H_rd
 clear H_wr
 clear H_rb
 clear H_r4
 clear H_rk
 clear H_r6
 clear H_r8s
 have B0 := BG.trans (B.mono hwsK)
 clear B BG hwsK
 have B := B0
 clear B0
 go_upto_region 6 with fail
 refine wp_region_lit ?_
 refine clF (enters_of Tryz.func34 (by kernel_rfl) rfl) (c := zdu _) (h := ?_)
 rintro e wn ⟨a10, n10, c10, rfl, za⟩
 have zf := B.size
 have zg := za.size
 replace B := B.trans (za.mono B.size)
 (try replace lm := lm.below za)
 (try replace rd := rd.below za)
 (try replace wr := wr.below za)
 (try replace rb := rb.below za)
 (try replace r4 := r4.below za)
 (try replace rk := rk.below za)
 (try replace r6 := r6.below za)
 (try replace r8s := r8s.below za)
 (try replace r8 := r8.below za)
 refine ⟨_, rfl, ?_⟩
 simp only [zo]
 refine chk 3 ?_
 obtain ⟨wK, hK⟩ : ∃ z, z = wn := ⟨_, rfl⟩
 subst hK
 have BG := B
 have hwsK := BG.size
 have B := Below.refl wK.heap.size wK
 have H_lm := Lib.hid lm
 have H_rd := Lib.hid rd
 have H_wr := Lib.hid wr
 have H_rb := Lib.hid rb
 have H_r4 := Lib.hid r4
 have H_rk := Lib.hid rk
 have H_r6 := Lib.hid r6
 have H_r8s := Lib.hid r8s
 have H_r8 := Lib.hid r8
 (refine zr (t := 30) rfl _ (zJ _ _ rfl) (alK B ?_); clear B; intro b_r10 wn zb zd r10 za zf zk B; (try have zh := lm.lt); (try replace lm := lm.below (za.mono zb)); (try have zh := rd.lt); (try replace rd := rd.below (za.mono zb)); (try have zh := wr.lt); (try replace wr := wr.below (za.mono zb)); (try have zh := rb.lt); (try replace rb := rb.below (za.mono zb)); (try have zh := r4.lt); (try replace r4 := r4.below (za.mono zb)); (try have zh := rk.lt); (try replace rk := rk.below (za.mono zb)); (try have zh := r6.lt); (try replace r6 := r6.below (za.mono zb)); (try have zh := r8s.lt); (try replace r8s := r8s.below (za.mono zb)); (try have zh := r8.lt); (try replace r8 := r8.below (za.mono zb)); simp only [zo])
 (refine zq (t := 30) rfl _ _ rfl _ rfl _ rfl r10 (by kernel_rfl) rfl (by simp [stC, Value.oneCell']) (stK B (by omega) ?_); clear r10 B; intro wn r10 ze zf zg B; simp only [zo])
 refine chk 1 ?_
 refine wpList_nil ?_
 clear lm
 clear rd
 clear wr
 clear rb
 clear r4
 clear rk
 clear r6
 clear r8s
 clear r8
 have lm := by first | exact H_lm.out.below B | exact H_lm.out.of_eq (B.block _ H_lm.out.lt)
 have rd := by first | exact H_rd.out.below B | exact H_rd.out.of_eq (B.block _ H_rd.out.lt)
 have wr := by first | exact H_wr.out.below B | exact H_wr.out.of_eq (B.block _ H_wr.out.lt)
 have rb := by first | exact H_rb.out.below B | exact H_rb.out.of_eq (B.block _ H_rb.out.lt)
 have r4 := by first | exact H_r4.out.below B | exact H_r4.out.of_eq (B.block _ H_r4.out.lt)
 have rk := by first | exact H_rk.out.below B | exact H_rk.out.of_eq (B.block _ H_rk.out.lt)
 have r6 := by first | exact H_r6.out.below B | exact H_r6.out.of_eq (B.block _ H_r6.out.lt)
 have r8s := by first | exact H_r8s.out.below B | exact H_r8s.out.of_eq (B.block _ H_r8s.out.lt)
 have r8 := by first | exact H_r8.out.below B | exact H_r8.out.of_eq (B.block _ H_r8.out.lt)
 clear H_lm
 clear H_rd
 clear H_wr
 clear H_rb
 clear H_r4
 clear H_rk
 clear H_r6
 clear H_r8s
 clear H_r8
 have B0 := BG.trans (B.mono hwsK)
 clear B BG hwsK
 have B := B0
 clear B0
 clear r10
 go_upto_region 7 with fail
 try have lx_lm := lm.lt
 try have lx_rd := rd.lt
 try have lx_wr := wr.lt
 try have lx_rb := rb.lt
 try have lx_r4 := r4.lt
 try have lx_rk := rk.lt
 try have lx_r6 := r6.lt
 try have lx_r8s := r8s.lt
 try have lx_r8 := r8.lt
 refine z1 62 [(2, z2 ?v1_2), (14, zfc), (15, z2 ?v1_15), (20, z2 ?v1_20), (29, z2 ?v1_29), (39, Jc), (40, z2 ?v1_40), (47, Jc), (48, z2 ?v1_48), (52, z2 ?v1_52), (56, Jc), (57, z2 ?v1_57)] (by kernel_rfl) (by kernel_rfl) (by kernel_rfl) ?_
 rotate_left 8
 simp only [xB, Nat.reduceAdd]
 refine crq 2 ?_
 repeat (first | go_big_quiet_skip | (go_big_quiet_want; first | ((first | refine jH rfl ⟨-1, -1, 7, 2⟩ ⟨-1, -1, 7, 2⟩ rfl rfl true (by decide) ?_ | refine qB ?_ | refine qC ?_); simp only [zo]; go_big_quiet_on) | (go_big_quiet_op; go_big_quiet_on)))
 refine wpQuiet_nil ?_
 refine zL (by rfl) (by first | rfl | simp [Region.wanted, yielded]) ?_ ?_
 ·intro wn za hE Kx hKx
  have zf := B.size; have zg := za.size; replace B := B.trans (za.mono B.size)
  (try replace lm := lm.below za)
  (try replace rd := rd.below za)
  (try replace wr := wr.below za)
  (try replace rb := rb.below za)
  (try replace r4 := r4.below za)
  (try replace rk := rk.below za)
  (try replace r6 := r6.below za)
  (try replace r8s := r8s.below za)
  (try replace r8 := r8.below za)
  refine z7 rfl (enters_of Tryz.func18 (by kernel_rfl) rfl) (by simp only [Act.eval, qQ]; rfl) ?_
  refine (Y9 _ _ vq vq true wn rd wr.rs (by decide) (by decide) (by decide)).mono ?_; rintro e wm ⟨rfl, zl⟩; refine ⟨_, rfl, ?_⟩; have hz := hKx () wm trivial zl
  dsimp only [z2] at hz
  exact hz
 rintro ⟨⟩
 dsimp only [z2]
 simp only [zo]
 refine crq 11 ?_
 repeat (first | go_big_quiet_skip | (go_big_quiet_want; first | ((first | refine jH rfl ⟨-1, -1, 7, 2⟩ ⟨-1, -1, 7, 2⟩ rfl rfl true (by decide) ?_ | refine qB ?_ | refine qC ?_); simp only [zo]; go_big_quiet_on) | (go_big_quiet_op; go_big_quiet_on)))
 refine wpQuiet_nil ?_
 refine zL (by rfl) ?hw1_14 ?_ ?_
 case hw1_14 => kernel_rfl
 ·intro wn za hE Kx hKx
  have zf := B.size; have zg := za.size; replace B := B.trans (za.mono B.size)
  (try replace lm := lm.below za)
  (try replace rb := rb.below za)
  (try replace r4 := r4.below za)
  (try replace rk := rk.below za)
  (try replace r6 := r6.below za)
  (try replace r8s := r8s.below za)
  (try replace r8 := r8.below za)
  refine z7 rfl (enters_of Tryz.func19 (by kernel_rfl) rfl) (by simp only [Act.eval, qQ]; rfl) ?_
  refine (ZW _ (spB qJ 1) [] wn rb zdt ln4).mono ?_; rintro e wm ⟨a', c', rfl, _, zl⟩; exact ⟨_, rfl, hKx (a', c') wm trivial zl⟩
 rintro ⟨a54, c54⟩
 dsimp only [z2, zfc]
 simp only [zo]
 refine zL (by rfl) ?hw1_15 ?_ ?_
 case hw1_15 => kernel_rfl
 ·intro wn za hE Kx hKx
  have zf := B.size; have zg := za.size; replace B := B.trans (za.mono B.size)
  (try replace lm := lm.below za)
  (try replace r4 := r4.below za)
  (try replace rk := rk.below za)
  (try replace r6 := r6.below za)
  (try replace r8s := r8s.below za)
  (try replace r8 := r8.below za)
  refine yw rfl Tryz.underlying35 rfl ?_; exact hKx () _ trivial (Below.refl _ _)
 rintro ⟨⟩
 dsimp only [z2]
 simp only [zo]
 refine crq 4 ?_
 repeat (first | go_big_quiet_skip | (go_big_quiet_want; first | ((first | refine jH rfl ⟨-1, -1, 7, 2⟩ ⟨-1, -1, 7, 2⟩ rfl rfl true (by decide) ?_ | refine qB ?_ | refine qC ?_); simp only [zo]; go_big_quiet_on) | (go_big_quiet_op; go_big_quiet_on)))
 refine wpQuiet_nil ?_
 refine zL (by rfl) ?hw1_20 ?_ ?_
 case hw1_20 => kernel_rfl
 ·intro wn za hE Kx hKx
  have zf := B.size; have zg := za.size; replace B := B.trans (za.mono B.size)
  (try replace lm := lm.below za)
  (try replace r4 := r4.below za)
  (try replace rk := rk.below za)
  (try replace r6 := r6.below za)
  (try replace r8s := r8s.below za)
  (try replace r8 := r8.below za)
  refine z7 rfl (enters_of Tryz.func24 (by kernel_rfl) rfl) (by simp only [Act.eval, qQ]; rfl) ?_
  refine (KX ⟨8, 8, 8⟩ 0 0 191 wn (by simp only; omega) (by simp only; omega) (by simp only; omega) ln5).mono ?_
  rintro e wm ⟨rfl, zl⟩; refine ⟨_, rfl, ?_⟩; have hz := hKx () wm trivial zl
  dsimp only [z2] at hz
  exact hz
 rintro ⟨⟩
 dsimp only [z2]
 simp only [zo]
 refine crq 8 ?_
 repeat (first | go_big_quiet_skip | (go_big_quiet_want; first | ((first | refine jH rfl ⟨-1, -1, 7, 2⟩ ⟨-1, -1, 7, 2⟩ rfl rfl true (by decide) ?_ | refine qB ?_ | refine qC ?_); simp only [zo]; go_big_quiet_on) | (go_big_quiet_op; go_big_quiet_on)))
 refine wpQuiet_nil ?_
 refine zL (by rfl) ?hw1_29 ?_ ?_
 case hw1_29 => kernel_rfl
 ·intro wn za hE Kx hKx
  have zf := B.size; have zg := za.size; replace B := B.trans (za.mono B.size)
  (try replace lm := lm.below za)
  (try replace r4 := r4.below za)
  (try replace rk := rk.below za)
  (try replace r8s := r8s.below za)
  (try replace r8 := r8.below za)
  refine z7 rfl (enters_of Tryz.func31 (by kernel_rfl) rfl) (by simp only [Act.eval, qQ]; rfl) ?_
  refine (GETC.out _ wn rk).mono ?_; rintro e wm ⟨rfl, zl⟩; refine ⟨_, rfl, ?_⟩; have hz := hKx () wm trivial zl
  dsimp only [z2] at hz
  exact hz
 rintro ⟨⟩
 dsimp only [z2]
 simp only [zo]
 refine crq 9 ?_
 repeat (first | go_big_quiet_skip | (go_big_quiet_want; first | ((first | refine jH rfl ⟨-1, -1, 7, 2⟩ ⟨-1, -1, 7, 2⟩ rfl rfl true (by decide) ?_ | refine qB ?_ | refine qC ?_); simp only [zo]; go_big_quiet_on) | (go_big_quiet_op; go_big_quiet_on)))
 refine wpQuiet_nil ?_
 refine zL (by rfl) ?hw1_39 ?_ ?_
 case hw1_39 => kernel_rfl
 ·intro wn za hE Kx hKx
  have zf := B.size; have zg := za.size; replace B := B.trans (za.mono B.size)
  (try replace lm := lm.below za)
  (try replace r8s := r8s.below za)
  refine z7 rfl (enters_of Tryz.func48 (by kernel_rfl) rfl) (by simp only [Act.eval, qQ]; rfl) ?_
  refine (yR wn).mono ?_; rintro e wm ⟨b', rfl, hr, zl⟩; exact ⟨_, rfl, hKx b' wm hr zl⟩
 rintro bl79
 dsimp only [z2, Jc]
 simp only [zo]
 refine zL (by rfl) ?hw1_40 ?_ ?_
 case hw1_40 => kernel_rfl
 ·intro wn za hE Kx hKx
  have zf := B.size; have zg := za.size; replace B := B.trans (za.mono B.size)
  (try replace lm := lm.below za)
  (try replace r8s := r8s.below za)
  have n79 := hE 39 (by kernel_rfl); change RSE _ _ _ _ at n79
  refine z7 rfl (enters_of Tryz.func28 (by kernel_rfl) rfl) (by simp only [Act.eval, qQ]; rfl) ?_
  refine (zaW _ _ qJ qJ true wn r8s n79 (by decide) (by decide) (by decide)).mono ?_; rintro e wm ⟨rfl, zl⟩; refine ⟨_, rfl, ?_⟩; have hz := hKx () wm trivial zl
  dsimp only [z2] at hz
  exact hz
 rintro ⟨⟩
 dsimp only [z2]
 simp only [zo]
 refine crq 6 ?_
 repeat (first | go_big_quiet_skip | (go_big_quiet_want; first | ((first | refine jH rfl ⟨-1, -1, 7, 2⟩ ⟨-1, -1, 7, 2⟩ rfl rfl true (by decide) ?_ | refine qB ?_ | refine qC ?_); simp only [zo]; go_big_quiet_on) | (go_big_quiet_op; go_big_quiet_on)))
 refine wpQuiet_nil ?_
 refine zL (by rfl) ?hw1_47 ?_ ?_
 case hw1_47 => kernel_rfl
 ·intro wn za hE Kx hKx
  have zf := B.size; have zg := za.size; replace B := B.trans (za.mono B.size)
  (try replace lm := lm.below za)
  refine z7 rfl (enters_of Tryz.func48 (by kernel_rfl) rfl) (by simp only [Act.eval, qQ]; rfl) ?_
  refine (yR wn).mono ?_; rintro e wm ⟨b', rfl, hr, zl⟩; exact ⟨_, rfl, hKx b' wm hr zl⟩
 rintro bl87
 dsimp only [z2, Jc]
 simp only [zo]
 refine zL (by rfl) ?hw1_48 ?_ ?_
 case hw1_48 => kernel_rfl
 ·intro wn za hE Kx hKx
  have zf := B.size; have zg := za.size; replace B := B.trans (za.mono B.size)
  (try replace lm := lm.below za)
  have n87 := hE 47 (by kernel_rfl); change RSE _ _ _ _ at n87
  refine z7 rfl (enters_of Tryz.func16 (by kernel_rfl) rfl) (by simp only [Act.eval, qQ]; rfl) ?_
  refine (xr _ qJ true wn n87 Qn ln1).mono ?_; rintro e wm ⟨rfl, zl⟩; refine ⟨_, rfl, ?_⟩; have hz := hKx () wm trivial zl
  dsimp only [z2] at hz
  exact hz
 rintro ⟨⟩
 dsimp only [z2]
 simp only [zo]
 refine crq 3 ?_
 repeat (first | go_big_quiet_skip | (go_big_quiet_want; first | ((first | refine jH rfl ⟨-1, -1, 7, 2⟩ ⟨-1, -1, 7, 2⟩ rfl rfl true (by decide) ?_ | refine qB ?_ | refine qC ?_); simp only [zo]; go_big_quiet_on) | (go_big_quiet_op; go_big_quiet_on)))
 refine wpQuiet_nil ?_
 refine zL (by rfl) ?hw1_52 ?_ ?_
 case hw1_52 => kernel_rfl
 ·intro wn za hE Kx hKx
  have zf := B.size; have zg := za.size; replace B := B.trans (za.mono B.size)
  (try replace lm := lm.below za)
  refine z7 rfl (enters_of Tryz.func16 (by kernel_rfl) rfl) (by simp only [Act.eval, qQ]; rfl) ?_
  refine (xr (.slice none 0 0) zSt false wn (qS.nil (E := spE) 0 wn).rs (by decide) ln7).mono ?_; rintro e wm ⟨rfl, zl⟩; refine ⟨_, rfl, ?_⟩; have hz := hKx () wm trivial zl
  dsimp only [z2] at hz
  exact hz
 rintro ⟨⟩
 dsimp only [z2]
 simp only [zo]
 refine crq 3 ?_
 repeat (first | go_big_quiet_skip | (go_big_quiet_want; first | ((first | refine jH rfl ⟨-1, -1, 7, 2⟩ ⟨-1, -1, 7, 2⟩ rfl rfl true (by decide) ?_ | refine qB ?_ | refine qC ?_); simp only [zo]; go_big_quiet_on) | (go_big_quiet_op; go_big_quiet_on)))
 refine wpQuiet_nil ?_
 refine zL (by rfl) ?hw1_56 ?_ ?_
 case hw1_56 => kernel_rfl
 ·intro wn za hE Kx hKx
  have zf := B.size; have zg := za.size; replace B := B.trans (za.mono B.size)
  (try replace lm := lm.below za)
  refine z7 rfl (enters_of Tryz.func48 (by kernel_rfl) rfl) (by simp only [Act.eval, qQ]; rfl) ?_
  refine (yR wn).mono ?_; rintro e wm ⟨b', rfl, hr, zl⟩; exact ⟨_, rfl, hKx b' wm hr zl⟩
 rintro bl96
 dsimp only [z2, Jc]
 simp only [zo]
 refine zL (by rfl) ?hw1_57 ?_ ?_
 case hw1_57 => kernel_rfl
 ·intro wn za hE Kx hKx
  have zf := B.size; have zg := za.size; replace B := B.trans (za.mono B.size)
  (try replace lm := lm.below za)
  have n96 := hE 56 (by kernel_rfl); change RSE _ _ _ _ at n96
  refine z7 rfl (enters_of Tryz.func21 (by kernel_rfl) rfl) (by simp only [Act.eval, qQ]; rfl) ?_
  refine (zam _ qJ ⟨-1, -1, 7, 2⟩ wn lm n96 Qn ln6).mono ?_; rintro e wm ⟨rfl, zl⟩; refine ⟨_, rfl, ?_⟩; have hz := hKx () wm trivial zl
  dsimp only [z2] at hz
  exact hz
 rintro ⟨⟩
 dsimp only [z2]
 simp only [zo]
 refine crq 4 ?_
 repeat (first | go_big_quiet_skip | (go_big_quiet_want; first | ((first | refine jH rfl ⟨-1, -1, 7, 2⟩ ⟨-1, -1, 7, 2⟩ rfl rfl true (by decide) ?_ | refine qB ?_ | refine qC ?_); simp only [zo]; go_big_quiet_on) | (go_big_quiet_op; go_big_quiet_on)))
 refine wpQuiet_nil ?_
 refine qP ?_
 intro wn za hE
 have zf := B.size
 have zg := za.size
 replace B := B.trans (za.mono B.size)
 have n79 := hE 39
 change RSE _ _ _ _ at n79
 have n87 := hE 47
 change RSE _ _ _ _ at n87
 have n96 := hE 56
 change RSE _ _ _ _ at n96
 clear hE
 try simp only [List.drop_succ_cons, List.drop_zero]
 refine zN.normal ?_
 go_wp2
 go_ret
 exact ⟨rfl, B⟩
end Go.Proofs.YtepelndbbhdofaaGreatDoor
/- How this seat's arguments are opened: slices of integers, rectangles, generated rasters. -/
namespace Go.Proofs.YtepelndbbhdofaaGreatDoor
open Go.ChangeShapes Go.WideShapes Go.ChangeAt Go.RowKit Pl
set_option linter.unusedVariables false
set_option linter.unusedSimpArgs false
set_option maxRecDepth 20000
theorem zb7 : reachBytes ≤ 140737488351232 := by decide
section
variable {H : Type} {enc : TypeId × Value → H} {w : World} {base : Nat} {spare : Nat → Bool} {held : Bool}
theorem Wf (b off n : Nat) : (Addr.add ⟨b, off, none⟩ n) = ⟨b, off + n, none⟩ := by
 unfold Addr.add; split
 ·rename_i h; subst h; rfl
 ·rfl
theorem zad {fuel : Nat} {cs : List Value} {x : DataW H × List MemPlace} (h : DataW.trod enc Tryz.prog w base spare held fuel 22 cs = some x) (hw : ∀ n ∈ x.1.weights Tryz.prog 22, n ≤ reachBytes) :
  ∃ v L, cs = [v] ∧ RSE inE v L w ∧ L.length ≤ 17592186044416 := by
 have hC : Tryz.prog.cellsOf 3 = 1 := by kernel_rfl
 have hB : Tryz.prog.bytesOf 3 = 8 := by kernel_rfl
 rcases open_ints Tryz.underlying22 Tryz.underlying3 hC h with ⟨rfl, rfl⟩ | ⟨a, len, cap, zs, rfl, _, hl, hcap, hz, rfl, hcell, _⟩
 ·exact ⟨_, [], rfl, RSE.nil w, by simp⟩
 ·have hzl : len ≤ zs.length := by rw [hz]; split <;> omega
  have htl : (zs.take len).length = len := by rw [List.length_take, Nat.min_eq_left hzl]
  refine ⟨_, zs.take len, rfl, ?_, ?_⟩
  ·by_cases h0 : len = 0
   ·subst h0; exact .inr (.inr ⟨a, cap, rfl, by simp⟩)
   ·obtain ⟨b, off, spot⟩ := a
    have c0 := hcell 0 (by omega); have hspot : spot = none := by simpa [Addr.add] using World.cell?_spot c0
    subst hspot; simp only [Wf] at hcell c0; refine .inr (.inl ⟨b, off, cap, by rw [htl], by rw [htl]; exact hl, fun _ => ⟨World.block_lt_of_cell? w _ c0, fun i x hi j hj => ?_⟩⟩)
    obtain rfl : j = 0 := by omega
    have hil : i < len := by rw [← htl]; exact (List.getElem?_eq_some_iff.1 hi).1
    rw [List.getElem?_take_of_lt hil] at hi; rw [Nat.mul_one, Nat.add_zero, hcell i (by omega), List.getD_eq_getElem?_getD, hi]
    rfl
  ·rw [htl]
   have := hw ((len + (zs.length - len)) * 8) (by simp [DataW.weights, Tryz.underlying22, hB, lits, Nat.min_eq_left hzl]); have := zb7; omega
theorem Qr {r : Reach} {b0 : Nat} {v : Value} {d : DataW H} {p : List MemPlace} (hv : Value.okWide Tryz.prog w r b0 22 v)
  (h : DataW.Trod enc Tryz.prog w base spare held 22 v d p) (hw : ∀ n ∈ d.weights Tryz.prog 22, n ≤ reachBytes) : ∃ L, RSE inE v L w ∧ L.length ≤ 17592186044416 := by
 obtain ⟨a0, len, cap, rfl⟩ := okWide_slice Tryz.underlying22 hv
 obtain ⟨fuel, hf⟩ := h
 obtain ⟨v', L, e, h1, h2⟩ := zad hf hw
 simp [Value.cells] at e
 subst e
 exact ⟨L, h1, h2⟩
end
end Go.Proofs.YtepelndbbhdofaaGreatDoor
/- The door of chapter 14's laws: what the one listed variable gives the walks. -/
namespace Go.Proofs.YtepelndbbhdofaaGreatDoor
open Go.ChangeShapes Go.WideShapes Go.ChangeAt Go.RowKit Pl
set_option linter.unusedVariables false
set_option linter.unusedSimpArgs false
def X5 : List (String × DataW Unit) := [("gouache/stroke.limits", Rows.laid_gouache_stroke_limits)]
theorem zbc (os : Os) (args : Array Value) : laidMetH Tryz.prog X5 ((World.doorLaid Tryz.prog 400 os).forCall (fun _ _ => 0) ⟨#[], args, []⟩).memory :=
 laidMetH_of_parts3 (fuel := 8) (laidMet_of_run' 8 (by kernel_rfl) (by kernel_rfl)) (by kernel_rfl) (by kernel_rfl)
theorem Vq : Tryz.prog.globalNamed "gouache/stroke.limits" = some 0 := by kernel_rfl
/-- WHAT THE CONDITION GIVES THE WALKS. -/
theorem X7 {W : World} (h : laidMetH Tryz.prog X5 W) : xx W := by
 rw [MakeChecks.laidMetH_plain _ _ _ (by kernel_rfl)] at h
 obtain ⟨ps, ⟨g, t, cs, fuel, p, q, hg, ht, hv, hd, _, _⟩, _⟩ := h
 obtain rfl := Option.some.inj (Vq.symm.trans hg)
 have hty : (Tryz.prog.globals[0]?).map (·.type) = some 38 := by kernel_rfl
 obtain rfl := Option.some.inj (hty.symm.trans ht)
 have hC : Tryz.prog.cellsOf 3 = 1 := by kernel_rfl
 have hC4 : Tryz.prog.cellsOf 38 = 4 := by kernel_rfl
 obtain ⟨y0, y1, y2, y3, n, hx, hlen, h0, h1, h2, h3⟩ := Joins.trod_struct4 Tryz.underlying38 hd
 obtain ⟨c0, c1, c2, c3, rfl⟩ := Joins.array4 (show cs.size = 4 from by rw [← Array.length_toList, hlen, hC4])
 simp only [hC, List.drop_zero, List.drop_succ_cons, List.take_succ_cons, List.take_zero] at h0 h1 h2 h3
 obtain ⟨a, ea, ya, _⟩ := DataW.trod_int Tryz.underlying3 h0
 obtain ⟨b, eb, yb, _⟩ := DataW.trod_int Tryz.underlying3 h1
 obtain ⟨c, ec, yc, _⟩ := DataW.trod_int Tryz.underlying3 h2
 obtain ⟨e, ee, ye, _⟩ := DataW.trod_int Tryz.underlying3 h3
 subst ya yb yc ye
 simp only [Rows.laid_gouache_stroke_limits, Prod.mk.injEq, DataW.agg.injEq, List.cons.injEq, DataW.lit.injEq, Lit.int.injEq, true_and, and_true] at hx
 obtain ⟨⟨rfl, rfl, rfl, rfl⟩, _⟩ := hx
 simp at ea eb ec ee
 subst ea eb ec ee
 have hh : ∃ t k, W.heap[0]? = some (.cells #[.int .i64 (-65536), .int .i64 (-65536), .int .i64 65536, .int .i64 65536] t k) := by
  unfold World.var? at hv; rw [Vq] at hv; simp only [Option.bind_some] at hv; split at hv
  ·rename_i cs2 t2 k2 he
   injection hv with hv
   subst hv; exact ⟨_, _, he⟩
  ·cases hv
 obtain ⟨t2, k2, hh⟩ := hh
 refine ⟨(Array.getElem?_eq_some_iff.1 hh).1, fun j hj => ?_⟩
 unfold World.cell?
 simp only [hh]
 rfl
end Go.Proofs.YtepelndbbhdofaaGreatDoor
/- Openers of chapter 14's arguments; masks. -/
namespace Go.Proofs.YtepelndbbhdofaaGreatDoor
open Go.ChangeShapes Go.WideShapes Go.ChangeAt Go.RowKit Pl
set_option linter.unusedVariables false
set_option linter.unusedSimpArgs false
set_option maxRecDepth 20000
section
variable {H : Type} {enc : TypeId × Value → H} {w : World} {base : Nat} {spare : Nat → Bool} {held : Bool}
end
theorem WH (x : Int) : ∃ p : Int, bits .and .i64 x 65535 = p ∧ 0 ≤ p ∧ p ≤ 65535 := ⟨x % 65536, uR x 16 65535 rfl (by decide), by omega, by omega⟩
/- Openers of chapter 14's arguments: rows of three and six integers, a Raw. -/
section
variable {H : Type} {enc : TypeId × Value → H} {w : World} {base : Nat} {spare : Nat → Bool} {held : Bool}
end
end Go.Proofs.YtepelndbbhdofaaGreatDoor
/- Plain: made strokes are valid, lie near the origin, and paint without an error. -/
namespace Go.Proofs.YtepelndbbhdofaaGreatDoor
open Go.RowKit Pl
set_option linter.unusedVariables false
set_option linter.unusedSimpArgs false
set_option maxRecDepth 20000
/-- Dabs within the bounds of the points. -/
def InD (m n R : Int) (d : Db) : Prop := (m ≤ d.x ∧ d.x ≤ n) ∧ (m ≤ d.y ∧ d.y ≤ n) ∧ 0 ≤ d.r ∧ d.r ≤ R
def InS (m n : Int) (a : Sp) : Prop := (m ≤ a.x ∧ a.x ≤ n) ∧ (m ≤ a.y ∧ a.y ≤ n)
theorem Vl {s : Stk} (h : VSk s) {m n R x y p : Int} (hx : m ≤ x ∧ x ≤ n) (hy : m ≤ y ∧ y ≤ n) (hp : 0 ≤ p ∧ p ≤ 255) (hR : s.rad ≤ R) : InD m n R (za8 s x y p) := by
 have hr := h.r1
 have hr2 := h.r2
 have h7 := jO (a := s.rad) (b := p) (m := 256) (k := 255) (by omega) (by omega) hp.1 hp.2
 have h9 : s.rad * p ≤ s.rad * 255 := Int.mul_le_mul_of_nonneg_left hp.2 (by omega)
 have h8 := xO (n := s.rad * p) (d := 255) (m := s.rad) h7.1 (by omega) (by omega)
 exact ⟨hx, hy, h8.1, Int.le_trans h8.2 hR⟩
theorem zc8 {s : Stk} (h : VSk s) {m n R : Int} (hp : ∀ a ∈ s.pts, InS m n a) (hR : s.rad ≤ R) {k : Nat} (hk : k < ji s) : InD m n R (jK s k) := by
 have hat : ∀ j, j < s.pts.length → InS m n (pAt s.pts j) ∧ okS (pAt s.pts j) := fun j hj => ⟨hp _ (List.mem_of_getElem? (jl hj)), h.pt hj⟩
 by_cases hn : s.pts.length = 1
 ·unfold jK
  rw [if_pos hn]; obtain ⟨⟨h1, h2⟩, o1, o2, o3, o4, o5, o6⟩ := hat 0 (by omega); exact Vl h h1 h2 ⟨o5, o6⟩ hR
 ·obtain ⟨j, h1, h2, h3, e⟩ := ZJ h hn hk
  obtain ⟨⟨a1, a2⟩, p1, p2, p3, p4, p5, p6⟩ := hat j (by omega); obtain ⟨⟨b1, b2⟩, q1, q2, q3, q4, q5, q6⟩ := hat (j + 1) h1; rw [e]; have hl : s.pha + k * s.spa - qm s.pts j < xR (pAt s.pts j) (pAt s.pts (j + 1)) := by
   have : qm s.pts (j + 1) = qm s.pts j + xR (pAt s.pts j) (pAt s.pts (j + 1)) := rfl; omega
  exact Vl h (kV (by omega) hl a1 b1) (kV (by omega) hl a2 b2) (kV (by omega) hl ⟨p5, p6⟩ ⟨q5, q6⟩) hR
theorem zba {s : Stk} (h : VSk s) {m n R : Int} (hp : ∀ a ∈ s.pts, InS m n a) (hR : s.rad ≤ R) : ∀ d ∈ jh s, InD m n R d := fun d hd => by
 obtain ⟨k, hk, rfl⟩ := List.mem_map.1 hd
 exact zc8 h hp hR (List.mem_range.1 hk)
theorem Ze (z : Int) : 0 ≤ z * z := by
 rcases Int.le_total 0 z with h | h
 ·exact Int.mul_nonneg h h
 ·have := Int.mul_nonneg (show 0 ≤ -z by omega) (show 0 ≤ -z by omega)
  rwa [Int.neg_mul_neg] at this
theorem zdp {a b : Sp} {D s : Int} (hs : 0 ≤ s) (hx : -D ≤ b.x - a.x ∧ b.x - a.x ≤ D) (hy : -D ≤ b.y - a.y ∧ b.y - a.y ≤ D) (h : D * D + D * D < (s + 1) * (s + 1)) : xR a b ≤ s := by
 have sq : ∀ {z : Int}, -D ≤ z ∧ z ≤ D → z * z ≤ D * D := fun {z} hz => (J4 (M := D) hz hz).2
 have h1 := sq hx
 have h2 := sq hy
 unfold xR
 rcases Int.lt_or_le s ((sqN (kE a b).toNat : Nat) : Int) with k | k
 ·have h3 : (s + 1).toNat ≤ sqN (kE a b).toNat := by omega
  have h4 := Ko.1 h3; have h5 : ((s + 1).toNat * (s + 1).toNat : Nat) ≤ (kE a b).toNat := h4; have h6 : (((s + 1).toNat * (s + 1).toNat : Nat) : Int) = (s + 1) * (s + 1) := by rw [Int.natCast_mul]; congr 1 <;> omega
  have h7 : kE a b ≤ D * D + D * D := Int.add_le_add h1 h2; have hnn : 0 ≤ kE a b := Int.add_nonneg (Ze _) (Ze _); have h8 : ((kE a b).toNat : Int) = kE a b := Int.toNat_of_nonneg hnn; have h9 : (s + 1) * (s + 1) ≤ kE a b := by rw [← h6, ← h8]; exact Int.ofNat_le.2 h5
  exact absurd (Int.lt_of_le_of_lt (Int.le_trans h9 h7) h) (Int.lt_irrefl _)
 ·exact k
theorem VS {l : List Sp} {s : Int} (hs : 0 ≤ s) (h : ∀ j, j + 1 < l.length → xR (pAt l j) (pAt l (j + 1)) ≤ s) : ∀ k, k + 1 ≤ l.length → qm l k ≤ k * s
 | 0, _ => by show (0 : Int) ≤ _; omega
 | k + 1, hk => by
  have e : qm l (k + 1) = qm l k + xR (pAt l k) (pAt l (k + 1)) := rfl; have h1 := VS hs h k (by omega); have h2 := h k hk; rw [e, Int.natCast_add, Int.add_mul]; omega
theorem WF (L : List Int) (k : Nat) : InS (-100) 299 (wX L k) ∧ 0 ≤ (wX L k).p ∧ (wX L k).p ≤ 255 := by
 have h1 := jG L (6 + 3 * k) (m := 400) (by omega)
 have h2 := jG L (7 + 3 * k) (m := 400) (by omega)
 have h3 := jG L (8 + 3 * k) (m := 256) (by omega)
 unfold wX InS
 simp only
 omega
theorem J3 (L : List Int) : ∀ a ∈ (z6 L).pts, InS (-100) 299 a ∧ 0 ≤ a.p ∧ a.p ≤ 255 := fun a ha => by
 obtain ⟨k, _, rfl⟩ := List.mem_map.1 ha
 exact WF L k
theorem Yc (L : List Int) : (z6 L).pts.length = madeN L := Zd _ _
theorem kU (L : List Int) : VSk (z6 L) := by
 have hn := Yb L
 have hl := Yc L
 have r0 := jG L 0 (m := 64) (by omega)
 have s0 := jG L 1 (m := 120) (by omega)
 have p0 := jG L 2 (m := 100) (by omega)
 have hat : ∀ j, j < (z6 L).pts.length → InS (-100) 299 (pAt (z6 L).pts j) := fun j hj => (J3 L _ (List.mem_of_getElem? (jl hj))).1
 have hlen : ∀ j, j + 1 < (z6 L).pts.length → xR (pAt (z6 L).pts j) (pAt (z6 L).pts (j + 1)) ≤ 600 := fun j hj => by
  obtain ⟨a1, a2⟩ := hat j (by omega); obtain ⟨b1, b2⟩ := hat (j + 1) hj; exact zdp (D := 400) (by omega) (by omega) (by omega) (by decide)
 have hpre := VS (by omega) hlen ((z6 L).pts.length - 1) (by omega)
 have hspa : (z6 L).spa = 8 + qO L 1 120 := rfl
 have hrad : (z6 L).rad = 1 + qO L 0 64 := rfl
 have hpha : (z6 L).pha = qO L 2 100 := rfl
 refine ⟨by omega, by omega, by omega, by omega, by omega, by omega, by omega, by omega, fun a ha => ?_, ?_⟩
 ·obtain ⟨⟨h1, h2⟩, h3, h4⟩ := J3 L a ha
  unfold okS; omega
 ·unfold xC
  have : (((z6 L).pts.length - 1 : Nat) : Int) * 600 ≤ 5 * 600 := by omega
  omega
theorem wY (L : List Int) : jC (z6 L) = true := (jD _).2 (kU L)
theorem WG (L : List Int) : ∀ d ∈ jh (z6 L), InD (-100) 299 64 d := zba (kU L) (fun a ha => (J3 L a ha).1) (by have r0 := jG L 0 (m := 64) (by omega); show 1 + qO L 0 64 ≤ 64; omega)
/- Plain: painting made strokes onto made rasters ends without an error. -/
def uS : Rc := ⟨-3, -3, 4, 4⟩
theorem Q8 : jZ uS := by unfold uS; refine ⟨?_, ?_, ?_, ?_, ?_, ?_, ?_, ?_⟩ <;> (simp only; omega)
theorem Q7 : areaN uS ≤ 1024 := by decide
theorem kx.nil (R : Rc) : kx R [] := fun e h => by cases h
theorem kx.fine {R : Rc} {ls : List TA} (h : kx R ls) : kx R (qf ls) := by
 unfold qf
 split
 ·exact h
 ·exact kx.nil R
/-- A dab near the origin turns tiles of the box alone. -/
theorem zbK {d : Db} (h : InD (-100) 299 64 d) : zai uS d := fun hk x y hh => by
 unfold skD at hk
 rw [Bool.or_eq_false_iff] at hk
 obtain ⟨⟨a1, a2⟩, ⟨a3, a4⟩, a5, a6⟩ := h
 have e := zcq d hk.2
 have hE := (yn _).1 hk.2
 rw [e] at hh hE
 unfold kK at hh hE
 unfold tlR at hh
 rw [jr] at hh ⊢
 unfold uS
 simp only at hh hE ⊢
 omega
theorem Jf (L : List Int) : ∀ d ∈ jh (z6 L), zai uS d := fun d hd => zbK (WG L d hd)
theorem VI (L : List Int) : (z6 L).col.ok := kD _
/-- Painted without an error, and within the box. -/
theorem Ks {s : Stk} {L : List Int} (hd : jh s = jh (z6 L)) (hv : jC s = true) {ls : List TA} (hb : kx uS ls) : (qt s ls).2 = 0 ∧ kx uS (qt s ls).1 := by
 unfold qt
 rw [if_pos hv, hd]
 exact uq (s := s) Q8 Q7 _ _ (Qe (kU L)) (Jf L) (jw ls) hb.fine
theorem zbZ {R : Rc} {ls : List TA} {x y : Int} {t : Nat → Px} (h : kx R ls) (hx : jz R x y = true) : kx R (wo ls x y t) := fun e he => by
 unfold wo xy at he
 split at he
 ·split at he
  ·rcases uB he with k | ⟨k, _⟩
   ·exact h.fine e k
   ·rw [k]; exact hx
  ·cases he
 ·cases he
theorem uX (L : List Int) : ∀ k, kx uS (xh L k)
 | 0 => kx.nil _
 | k + 1 => by
  show kx uS (if _ then _ else _)
  split
  ·have h1 := ux L (3 * k)
   have h2 := ux L (3 * k + 1); refine zbZ (uX L k) ?_; rw [jr]; unfold uS; simp only; omega
  ·exact uX L k
theorem WD (L : List Int) : kx uS (xi L) := uX L 40
end Go.Proofs.YtepelndbbhdofaaGreatDoor
/- of: a made stroke with one field changed. -/
namespace Go.Proofs.YtepelndbbhdofaaGreatDoor
open Go.RowKit Go.Shelf Pl
set_option linter.unusedVariables false
set_option linter.unusedSimpArgs false
set_option maxRecDepth 20000
theorem qS.neT {α : Type} {k : Nat} {T ST : TypeId} {E : Elt α k T ST} {B b : Nat} {v : Value} {ls : List α} {t : TypeId} {cs : Array Value} {w : World} (h : qS E B v ls w) (ha : AtB t w b cs) (ht : t ≠ T) : ∀ g, v.ownBlock = some g → g ≠ b := fun g hg e => by
 obtain ⟨cur, hc⟩ := h.block hg
 subst e
 have := (show w.heap[g]? = _ from hc).symm.trans ha
 injection this with this
 injection this with _ this
 exact ht this.symm
def oIx (L : List Int) (val : Int) : Nat := (val % 65536 % (madeN L : Int)).toNat
def zeB (n k : Nat) : List Sp := (List.range k).map fun j => ⟨((n + j : Nat) : Int), 0, 9⟩
def ofN (val : Int) : Nat := (64 + val % 2).toNat
def zfo (l : List Sp) (k : Nat) : List Sp := l ++ zeB l.length k
/-- The stroke that 'of' returns. -/
def chS (s : Stk) (c : Int) (i : Nat) (val : Int) : Stk :=
 if c = 1 then { s with pts := s.pts.set i ⟨val, (pAt s.pts i).y, (pAt s.pts i).p⟩ }
 else if c = 2 then { s with pts := s.pts.set i ⟨(pAt s.pts i).x, val, (pAt s.pts i).p⟩ }
 else if c = 3 then { s with pts := s.pts.set i ⟨(pAt s.pts i).x, (pAt s.pts i).y, val⟩ }
 else if c = 4 then { s with rad := val }
 else if c = 5 then { s with spa := val }
 else if c = 6 then { s with pha := val }
 else if c = 7 then { s with pts := [] }
 else if c = 8 then { s with pts := zfo s.pts (ofN val - s.pts.length) }
 else s
def ofS (L : List Int) (how val : Int) : Stk := chS (z6 L) (how % 16) (oIx L val) val
def zgF : Option Value → Nat
 | some (.slice _ n _) => n
 | _ => 0
end Go.Proofs.YtepelndbbhdofaaGreatDoor
/- Plain: an image of one raster pasted into another. -/
namespace Go.Proofs.YtepelndbbhdofaaGreatDoor
open Go.RowKit Pl
set_option linter.unusedVariables false
set_option linter.unusedSimpArgs false
end Go.Proofs.YtepelndbbhdofaaGreatDoor
/- Plain: what the laws on painted strokes (StrokeErase, StrokeHalves, StrokeArea) say. -/
namespace Go.Proofs.YtepelndbbhdofaaGreatDoor
open Go.RowKit Pl
set_option linter.unusedVariables false
set_option linter.unusedSimpArgs false
set_option maxRecDepth 20000
theorem zbH (L : List Int) : ∀ d ∈ jh (z6 L), okD d := Qe (kU L)
/-! ### StrokeErase -/
def zgA (s : Stk) : Stk := { s with era := true }
def zgL (s : Stk) : Stk := { s with era := false, col := ⟨s.col.r, s.col.g, s.col.b, 255⟩ }
/-! ### StrokeHalves -/
theorem zbq {M : List Int} {k : Nat} (h1 : 1 ≤ k) (h2 : k + 2 ≤ (z6 M).pts.length) {ls : List TA} (hl : zZ ls = true) (hb : kx uS ls) (ht : qH ls) :
  (qt (spA (z6 M) k) ls).2 = 0 ∧ qt (spB (z6 M) k) (qt (spA (z6 M) k) ls).1 = qt (z6 M) ls ∧ (qt (z6 M) ls).2 = 0 := by
 have hs := Ki (kU M) h1 h2
 have vA : jC (spA (z6 M) k) = true := (jD _).2 (zck (kU M) (by omega))
 have vB : jC (spB (z6 M) k) = true := (jD _).2 (zcl (kU M) (by omega))
 have hm : ∀ d ∈ jh (spA (z6 M) k), d ∈ jh (z6 M) := fun d hd => by rw [← hs]; exact List.mem_append_left _ hd
 have e0 := uq (s := z6 M) Q8 Q7 (jh (spA (z6 M) k)) ls (fun d hd => zbH M d (hm d hd)) (fun d hd => Jf M d (hm d hd)) hl hb
 have eA : qt (spA (z6 M) k) ls = jN (z6 M) (jh (spA (z6 M) k)) ls := by
  unfold qt; rw [if_pos vA, xe hl]; exact Ql rfl rfl _ _
 have eB : qt (spB (z6 M) k) (qt (spA (z6 M) k) ls).1 = jN (z6 M) (jh (spB (z6 M) k)) (qt (spA (z6 M) k) ls).1 := by
  rw [eA]; unfold qt; rw [if_pos vB, xe (kS (VI M) _ hl ht).1]; exact Ql rfl rfl _ _
 have eS : qt (z6 M) ls = jN (z6 M) (jh (z6 M)) ls := by
  unfold qt; rw [if_pos (wY M), xe hl]
 refine ⟨by rw [eA]; exact e0.1, ?_, (Ks rfl (wY M) hb).1⟩
 rw [eB, eA, eS, ← hs, X3 _ _ _ _ e0.1]
/-! ### StrokeArea -/
def zgS (p : Int × Int) : Rc := ⟨8 * p.1, 8 * p.2, 8 * p.1 + 8, 8 * p.2 + 8⟩
/- Plain: what StrokeShift says. -/
def zgy (X Y : Int) : Rc := ⟨(X - 11) / 8, (Y - 11) / 8, (X + 22) / 8 + 1, (Y + 22) / 8 + 1⟩
end Go.Proofs.YtepelndbbhdofaaGreatDoor
/- Changed of package raster. -/
namespace Go.Proofs.YtepelndbbhdofaaGreatDoor
open Go.RowKit Go.Shelf Pl
set_option linter.unusedVariables false
set_option linter.unusedSimpArgs false
set_option maxRecDepth 20000
def zgE : Value → Nat
 | .slice _ n _ => n
 | _ => 0
/- Contracts in the shape of chapter 14's laws: pixels by their parts, painting of made strokes. -/
theorem AtB.bl {t : TypeId} {w w' : World} {b : Nat} {cs : Array Value} (h : AtB t w b cs) (hb : Below w.heap.size w w') : AtB t w' b cs := h.of_eq (hb.block _ h.lt)
/-- Within a region whose operations keep what lay below its start: behind an alloc, behind a store. -/
theorem alX {w0 wS w : World} {F G : Nat → World → Prop} (B : Below w0.heap.size w0 w) (hX : Below wS.heap.size wS w) (h : ∀ b w', w.heap.size ≤ b → F b w' → Below w.heap.size w w' → w0.heap.size ≤ w.heap.size → wS.heap.size ≤ w.heap.size → b < w'.heap.size → Below w0.heap.size w0 w' → Below wS.heap.size wS w' → G b w') : ∀ b w', w.heap.size ≤ b → b ≤ w.heap.size → F b w' → Below b w w' → w'.heap.size = b + 1 → G b w' :=
 fun b w' h1 h2 f c e => h b w' h1 f (c.mono h1) B.size hX.size (Nat.lt_of_lt_of_eq (Nat.lt_succ_self _) e.symm) (B.trans (c.mono (Nat.le_trans B.size h1))) (hX.trans (c.mono (Nat.le_trans hX.size h1)))
theorem stX {w0 wS w : World} {b : Nat} {F G : World → Prop} (B : Below w0.heap.size w0 w) (hX : Below wS.heap.size wS w) (h0 : w0.heap.size ≤ b) (hS : wS.heap.size ≤ b) (h : ∀ w', F w' → Chg b w w' → w0.heap.size ≤ w.heap.size → wS.heap.size ≤ w.heap.size → w.heap.size ≤ w'.heap.size → Below w0.heap.size w0 w' → Below wS.heap.size wS w' → G w') : ∀ w', F w' → Chg b w w' → w'.heap.size = w.heap.size → G w' :=
 fun w' f c e => h w' f c B.size hX.size (Nat.le_of_eq e.symm) (Chg.below B c h0 B.size) (Chg.below hX c hS hX.size)
theorem Qt {s : Stk} (hc : s.col.ok) {ls : List TA} (ht : qH ls) {K : List TA} {E : Int} (e : qt s ls = (K, E)) : K.length ≤ maxLen ∧ zZ K = true ∧ qH K := by
 have h := Zg hc ht (s := s)
 rw [e] at h
 have h1 : zZ K = true := h.1
 have h2 : qH K := h.2
 have := (jX.1 h1).1
 exact ⟨by unfold maxLen; omega, h1, h2⟩
theorem zay (v u : Value) (ls ks : List TA) (b : Bool) (w : World) (h : RS v ls w) (h' : RS u ks w) (tk : qH ls) (tk' : qH ks) (hn : ls.length ≤ maxLen) (hn' : ks.length ≤ maxLen) (e : eqL (qf ls) (qf ks) = b) : Calls Tryz.prog 43 #[.agg #[v], .agg #[u]] w fun e w' => e = .returned (.bool b) ∧ Below w.heap.size w w' := e ▸ zcG v u ls ks w h h' tk tk' hn hn'
theorem j9 (v : Value) (s : Stk) (k : Nat) (z : Int) (w : World) (rs : RSE spE v s.pts w) (hv : jC s = true) (h1 : 1 ≤ k) (h2 : k + 2 ≤ s.pts.length) (hz : z = (k : Int)) : Calls Tryz.prog 26 #[.agg (stC v s), .int .i64 z] w fun e w' => ∃ aa na ca ab nb cb, e = .returned (.tuple #[.agg (stC (.slice aa na ca) (spA s k)), .agg (stC (.slice ab nb cb) (spB s k)), .int .i64 0]) ∧ qS spE w.heap.size (.slice aa na ca) (spA s k).pts w' ∧ qS spE w.heap.size (.slice ab nb cb) (spB s k).pts w' ∧ Below w.heap.size w w' := by
 subst hz
 exact (ZY v s k w rs hv h1 h2).mono fun e w' ⟨va, vb, e1, h3, h4, h5⟩ => by
  obtain ⟨a, c, rfl, _⟩ := h3.len; obtain ⟨a', c', rfl, _⟩ := h4.len; exact ⟨_, _, _, _, _, _, e1, h3, h4, h5⟩
set_option maxHeartbeats 8000000 in
theorem uN (v0 : Value) (L : List Int) (v1 : Value) (M : List Int) (at_ : Int) (w : World) (lm : xx w) (hL : RSE inE v0 L w) (hLn : L.length ≤ 17592186044416) (hM : RSE inE v1 M w) (hMn : M.length ≤ 17592186044416) : Calls Tryz.prog 11 #[v0, v1, .int .i64 at_] w fun e w' => e = .returned (.bool true) ∧ Below w.heap.size w w' := by
 have B := Below.refl w.heap.size w
 have HL := Lib.hid hL
 have HM := Lib.hid hM
 clear hL hM
 obtain ⟨V, hV, V1, V2⟩ := WH at_
 have n1 := Lib.hid (Kq (Nat.le_trans (WE L) (by omega)))
 have tk := Lib.hid (Je L)
 have mb := Yb M
 have ml := Yc M
 have MV := Lib.hid (wY M)
 have HALF := Lib.hid (fun k h1 h2 => zbq (M := M) (k := k) h1 h2 (Ya L) (WD L) (Je L))
 have OK1 := Lib.hid (VI M)
 have M1 := Lib.hid (fun w' (h : Below w.heap.size w w') => We v1 M w' (HM.out.below h) hMn)
 rw [← ml] at mb
 obtain ⟨S, hS⟩ : ∃ S, z6 M = S := ⟨_, rfl⟩
 rw [hS] at mb MV HALF OK1 M1
 clear hS ml HM hMn
 obtain ⟨n, hn⟩ : ∃ n : Nat, S.pts.length = n := ⟨_, rfl⟩
 rw [hn] at mb HALF M1
 have HN := Lib.hid hn
 clear hn
 go_enter Tryz.func11, Tryz.ntmps11
 go_upto_region 0 with fail
 refine wp_region_lit ?_
 try simp only [zR]
 refine chk 1 ?_
 refine wpList_nil ?_
 go_upto_region 1 with fail
 refine wp_region_lit ?_
 try simp only [zR]
 refine clF (enters_of Tryz.func13 (by kernel_rfl) rfl) (c := zce _ lm) (h := ?_)
 rintro e wn ⟨rfl, za⟩
 have zf := B.size
 have zg := za.size
 replace B := B.trans (za.mono B.size)
 (try replace lm := lm.below za)
 refine ⟨_, rfl, ?_⟩
 simp only [zo]
 refine chk 1 ?_
 refine wpList_nil ?_
 go_upto_region 2 with fail
 refine wp_region_lit ?_
 try simp only [zR]
 refine chk 1 ?_
 refine clF (enters_of Tryz.func29 (by kernel_rfl) rfl) (c := zaV _ L _ (HL.out.below B) hLn) (h := ?_)
 rintro e wn ⟨a1, c1, rfl, rs1, za⟩
 have zf := B.size
 have zg := za.size
 replace B := B.trans (za.mono B.size)
 (try replace lm := lm.below za)
 refine ⟨_, rfl, ?_⟩
 simp only [zo]
 obtain ⟨wK, hK⟩ : ∃ z, z = wn := ⟨_, rfl⟩
 subst hK
 have BG := B
 have hwsK := BG.size
 have B := Below.refl wK.heap.size wK
 have H_lm := Lib.hid lm
 have H_rs1 := Lib.hid rs1
 try simp only [zR]
 (refine zr (t := 64) rfl _ (ql _ _ rfl) (alK B ?_); clear B; intro b_r8 wn zb zd r8 za zf zk B; simp only [zo])
 (refine zq (t := 64) rfl _ _ rfl _ rfl _ rfl r8 (by kernel_rfl) rfl (by simp [Value.oneCell']) (stK B (by omega) ?_); clear r8 B; intro wn r8 ze zf zg B; simp only [zo])
 refine wpList_nil ?_
 clear lm
 clear rs1
 have lm := by first | exact H_lm.out.below B | exact H_lm.out.of_eq (B.block _ H_lm.out.lt)
 have rs1 := by first | exact H_rs1.out.below B | exact H_rs1.out.of_eq (B.block _ H_rs1.out.lt)
 clear H_lm
 clear H_rs1
 have B0 := BG.trans (B.mono hwsK)
 clear B BG hwsK
 have B := B0
 clear B0
 clear HL hLn
 go_upto_region 3 with fail
 refine wp_region_lit ?_
 try simp only [zR]
 refine chk 1 ?_
 refine clF (enters_of Tryz.func15 (by kernel_rfl) rfl) (c := M1.out _ B) (h := ?_)
 rintro e wn ⟨a2, c2, rfl, od, za⟩
 have zf := B.size
 have zg := za.size
 replace B := B.trans (za.mono B.size)
 (try replace lm := lm.below za)
 (try replace rs1 := rs1.below za)
 (try replace r8 := r8.below za)
 refine ⟨_, rfl, ?_⟩
 simp only [zo]
 obtain ⟨wK, hK⟩ : ∃ z, z = wn := ⟨_, rfl⟩
 subst hK
 have BG := B
 have hwsK := BG.size
 have B := Below.refl wK.heap.size wK
 have H_lm := Lib.hid lm
 have H_rs1 := Lib.hid rs1
 have H_r8 := Lib.hid r8
 have H_od := Lib.hid od
 try simp only [zR]
 (refine zr (t := 30) rfl _ (zJ _ _ rfl) (alK B ?_); clear B; intro b_r9 wn zb zd r9 za zf zk B; simp only [zo])
 (refine zq (t := 30) rfl _ _ rfl _ rfl _ rfl r9 (by kernel_rfl) rfl (by simp [stC, Value.oneCell']) (stK B (by omega) ?_); clear r9 B; intro wn r9 ze zf zg B; simp only [zo])
 refine wpList_nil ?_
 clear lm
 clear rs1
 clear r8
 clear od
 have lm := by first | exact H_lm.out.below B | exact H_lm.out.of_eq (B.block _ H_lm.out.lt)
 have rs1 := by first | exact H_rs1.out.below B | exact H_rs1.out.of_eq (B.block _ H_rs1.out.lt)
 have r8 := by first | exact H_r8.out.below B | exact H_r8.out.of_eq (B.block _ H_r8.out.lt)
 have od := by first | exact H_od.out.below B | exact H_od.out.of_eq (B.block _ H_od.out.lt)
 clear H_lm
 clear H_rs1
 clear H_r8
 clear H_od
 have B0 := BG.trans (B.mono hwsK)
 clear B BG hwsK
 have B := B0
 clear B0
 clear M1
 have l8 := r8.lt
 have l9 := r9.lt
 go_upto_region 4 with fail
 by_cases zh : n < 3
 ·have q1 : decide ((n : Int) < 3) = true := decide_eq_true (by omega)
  have q2 : decide (n < 3) = true := decide_eq_true zh; refine wp_region_lit ?_; try simp only [zR]
  refine chk 2 ?_
  refine zA (by first | rfl | simp [Region.wanted, yielded]) rfl Tryz.underlying26 rfl ?_; simp only [zo]; refine chk 1 ?_; refine wpList_nil ?_; go_upto_region 5 with fail
  refine wp_region_lit ?_; try simp only [zR]
  refine chk 2 ?_; refine wpList_nil ?_; go_wp2; go_ret; exact ⟨rfl, B⟩
 ·have q1 : decide ((n : Int) < 3) = false := decide_eq_false (by omega)
  have q2 : decide (n < 3) = false := decide_eq_false zh; refine wp_region_lit ?_; try simp only [zR]
  refine chk 2 ?_
  refine zA (by first | rfl | simp [Region.wanted, yielded]) rfl Tryz.underlying26 rfl ?_; simp only [zo]; refine chk 1 ?_; refine wpList_nil ?_; clear q1 q2; have e0 : (n : Int) - 2 ≠ 0 := by omega
  have e00 : ((n : Int) - 2 == 0) = false := by simp; omega
  obtain ⟨r, hr⟩ : ∃ r : Nat, V % ((n : Int) - 2) = (r : Int) := ⟨(V % ((n : Int) - 2)).toNat, (Int.toNat_of_nonneg (Int.emod_nonneg _ e0)).symm⟩; have t1 : Int.tmod V ((n : Int) - 2) = (r : Int) := by rw [Int.tmod_eq_emod_of_nonneg V1]; exact hr
  have hr2 : r + 2 < n := by have := Int.emod_lt_of_pos V (show (0 : Int) < (n : Int) - 2 by omega); omega
  clear hr; obtain ⟨hE1, hE2, hE3⟩ := HALF.out (1 + r) (by omega) (by omega); have PA := Qt (s := spA S (1 + r)) OK1.out tk.out (K := (qt (spA S (1 + r)) (xi L)).1) (E := 0) (Prod.ext rfl hE1); have HK1 := Lib.hid (show qt (spA S (1 + r)) (xi L) = ((qt (spA S (1 + r)) (xi L)).1, 0) from Prod.ext rfl hE1); have HK3 := Lib.hid (show qt S (xi L) = ((qt S (xi L)).1, 0) from Prod.ext rfl hE3); have PC := Qt OK1.out tk.out HK3.out; obtain ⟨K1, hK1⟩ : ∃ K, (qt (spA S (1 + r)) (xi L)).1 = K := ⟨_, rfl⟩; obtain ⟨K3, hK3⟩ : ∃ K, (qt S (xi L)).1 = K := ⟨_, rfl⟩; rw [hK1] at hE2 PA HK1; rw [hK3] at HK3 PC; have HK2 := Lib.hid (show qt (spB S (1 + r)) K1 = (K3, 0) from hE2.trans HK3.out); have nK1 := Lib.hid PA.1; have tK1 := Lib.hid PA.2.2; have nK3 := Lib.hid PC.1; have tK3 := Lib.hid PC.2.2; have EQ := Lib.hid (zbe (qf K3))
  have SN := Lib.hid (show S.pts.length ≤ 17592186044416 from by rw [HN.out]; omega)
  have SA := Lib.hid (show (spA S (1 + r)).pts.length ≤ 17592186044416 from by rw [ZM (by rw [HN.out]; omega)]; omega)
  have SB := Lib.hid (show (spB S (1 + r)).pts.length ≤ 17592186044416 from by rw [ZN, HN.out]; omega)
  have OKA := Lib.hid (show (spA S (1 + r)).col.ok from OK1.out); have OKB := Lib.hid (show (spB S (1 + r)).col.ok from OK1.out); clear hK1 hK3 hE1 hE2 hE3 PA PC; go_upto_region 6 with fail
  have r9B := r9; have l8' := r8.lt; have l9' := r9.lt; have lm' := lm.lt; go_cut [10, 11, 12] from 29 to 42 (fun s10 s11 s12 wr => ∃ b_r10 b_r11 aa na ca ab nb cb, s10 = .pointer (some ⟨b_r10, 0, none⟩) ∧ s11 = .pointer (some ⟨b_r11, 0, none⟩) ∧ s12 = .int .i64 0 ∧ RSE spE (.slice aa na ca) (spA S (1 + r)).pts wr ∧ RSE spE (.slice ab nb cb) (spB S (1 + r)).pts wr ∧ AtB 30 wr b_r10 (stC (.slice aa na ca) (spA S (1 + r))) ∧ AtB 30 wr b_r11 (stC (.slice ab nb cb) (spB S (1 + r))) ∧ Below w.heap.size w wr ∧ xx wr ∧ RS (.slice a1 (xi L).length c1) (xi L) wr ∧ AtB 64 wr b_r8 #[.slice a1 (xi L).length c1] ∧ RSE spE (.slice a2 n c2) S.pts wr ∧ AtB 30 wr b_r9 (stC (.slice a2 n c2) S))
  case first =>
   skip
   refine xw 19 #[false, false, false, false, false, false, false, false, false, false, false, false, false, false, false, false, false, false, false] (by kernel_rfl) (by kernel_rfl) ?_; intro wn za; have hX := za; have zf := B.size; have zg := za.size; replace B := B.trans (za.mono B.size); try replace lm := lm.below za
   try replace rs1 := rs1.below za
   try replace r8 := r8.below za
   try replace od := od.below za
   try replace r9 := r9.below za
   simp only [List.length_cons, List.length_nil, Nat.reduceAdd]; refine zx 0 rfl (by kernel_rfl) ⟨_, zw hX⟩ ?_; intro K hK; try simp only [zR]
   (first | (refine zn (t := 30) rfl _ _ _ rfl (fun w hw => zv (zB r9B w hw) Tryz.isAgg30 (by kernel_rfl)) (by rfl) ?_; simp only [zo]; go_big_quiet_on) | (refine zn (t := 26) rfl _ _ _ rfl (fun w hw => yf (uK (zB r9B w hw))) (by rfl) ?_; simp only [zo]; go_big_quiet_on) | (go_big_quiet_op; go_big_quiet_on))
   simp only [zo]; refine zx 1 rfl (by kernel_rfl) ⟨_, zw hX⟩ ?_; intro K hK; try simp only [zR]
   (first | (refine zn (t := 30) rfl _ _ _ rfl (fun w hw => zv (zB r9B w hw) Tryz.isAgg30 (by kernel_rfl)) (by rfl) ?_; simp only [zo]; go_big_quiet_on) | (refine zn (t := 26) rfl _ _ _ rfl (fun w hw => yf (uK (zB r9B w hw))) (by rfl) ?_; simp only [zo]; go_big_quiet_on) | (go_big_quiet_op; go_big_quiet_on))
   simp only [zo]; refine zx 2 rfl (by kernel_rfl) ⟨_, zw hX⟩ ?_; intro K hK; try simp only [zR]
   (first | (refine zn (t := 30) rfl _ _ _ rfl (fun w hw => zv (zB r9B w hw) Tryz.isAgg30 (by kernel_rfl)) (by rfl) ?_; simp only [zo]; go_big_quiet_on) | (refine zn (t := 26) rfl _ _ _ rfl (fun w hw => yf (uK (zB r9B w hw))) (by rfl) ?_; simp only [zo]; go_big_quiet_on) | (go_big_quiet_op; go_big_quiet_on))
   simp only [zo]; refine zx 3 rfl (by kernel_rfl) ⟨_, zw hX⟩ ?_; intro K hK; try simp only [zR]
   (first | (refine zn (t := 30) rfl _ _ _ rfl (fun w hw => zv (zB r9B w hw) Tryz.isAgg30 (by kernel_rfl)) (by rfl) ?_; simp only [zo]; go_big_quiet_on) | (refine zn (t := 26) rfl _ _ _ rfl (fun w hw => yf (uK (zB r9B w hw))) (by rfl) ?_; simp only [zo]; go_big_quiet_on) | (go_big_quiet_op; go_big_quiet_on))
   simp only [zo]; refine zx 4 rfl (by kernel_rfl) ⟨_, zw hX⟩ ?_; intro K hK; try simp only [zR]
   (first | (refine zn (t := 30) rfl _ _ _ rfl (fun w hw => zv (zB r9B w hw) Tryz.isAgg30 (by kernel_rfl)) (by rfl) ?_; simp only [zo]; go_big_quiet_on) | (refine zn (t := 26) rfl _ _ _ rfl (fun w hw => yf (uK (zB r9B w hw))) (by rfl) ?_; simp only [zo]; go_big_quiet_on) | (go_big_quiet_op; go_big_quiet_on))
   simp only [zo]; refine kP 5 14 15 rfl rfl rfl (by kernel_rfl) rfl rfl rfl (fun K hK => ?_) (fun K hK => ?_) (fun K hK => ?_)
   ·skip
    try simp only [zR]
    refine yw rfl Tryz.underlying26 rfl ?_; refine hK _ _ ⟨fun _ => ⟨_, zw hX⟩, ?_⟩; clear hK K; try simp only [zR]
    simp only [zo]; refine zx 6 rfl (by kernel_rfl) ⟨_, zw hX⟩ ?_; intro K hK; try simp only [zR]
    (first | (go_big_quiet_op; go_big_quiet_on))
    simp only [zo]; refine zx 7 rfl (by kernel_rfl) ⟨_, zw hX⟩ ?_; intro K hK; try simp only [zR]
    (first | (go_big_quiet_op; go_big_quiet_on))
    simp only [zo]; refine zx 8 rfl (by kernel_rfl) ⟨_, zw hX⟩ ?_; intro K hK; try simp only [zR]
    (first | (go_big_quiet_op; go_big_quiet_on))
    simp only [zo]; refine kP 9 14 15 rfl rfl rfl (by kernel_rfl) rfl rfl rfl (fun K hK => ?_) (fun K hK => ?_) (fun K hK => ?_)
    ·skip
     try simp only [zR]
     go_simp
     go_at_call 26
     refine (j9 _ S (1 + r) _ _ od.rs MV.out (by omega) (by rw [HN.out]; omega) (by go_num)).mono ?_
     rintro e wn ⟨aa, na, ca, ab, nb, cb, rfl, oA, oB, za⟩; have zf := B.size; have zg := za.size; have hsx := hX.size; replace B := B.trans (za.mono B.size); replace hX := hX.trans (za.mono hX.size); replace lm := lm.below za; replace rs1 := rs1.below za; replace r8 := r8.bl za; replace od := od.below za; replace r9 := r9.bl za; try replace r10 := r10.bl za
     try replace r11 := r11.bl za
     refine hK _ _ ⟨fun _ => ⟨_, zw hX⟩, ?_⟩; clear hK K; try simp only [zR]
     simp only [zo]; refine zx 10 rfl (by kernel_rfl) ⟨_, zw hX⟩ ?_; intro K hK; try simp only [zR]
     (first | (go_big_quiet_op; go_big_quiet_on))
     simp only [zo]; refine zx 11 rfl (by kernel_rfl) ⟨_, zw hX⟩ ?_; intro K hK; try simp only [zR]
     (first | (go_big_quiet_op; go_big_quiet_on))
     simp only [zo]; refine zx 12 rfl (by kernel_rfl) ⟨_, zw hX⟩ ?_; intro K hK; try simp only [zR]
     (first | (go_big_quiet_op; go_big_quiet_on))
     simp only [zo]; refine zx 13 rfl (by kernel_rfl) ⟨_, zw hX⟩ ?_; intro K hK; try simp only [zR]
     (first | (go_big_quiet_op; go_big_quiet_on))
     simp only [zo]; refine qN 14 15 rfl rfl (by kernel_rfl) rfl rfl (fun K hK => ?_) (fun K hK => ?_)
     ·skip
      try simp only [zR]
      refine zD (t := 30) _ (zJ _ _ rfl) (alX B hX ?_); clear B hX; intro b_r10 wn zb r10 za zf hsx zk B hX; replace lm := lm.below za; replace rs1 := rs1.below za; replace r8 := r8.bl za; replace od := od.below za; replace r9 := r9.bl za; try replace oA := oA.below za
      try replace oB := oB.below za
      try replace r11 := r11.bl za
      refine hK _ _ ⟨fun _ => ⟨_, zw hX⟩, ?_⟩; clear hK K; try simp only [zR]
      simp only [zo]; refine zy 15 rfl (by kernel_rfl) rfl (fun K hK => ?_); try simp only [zR]
      refine zD (t := 30) _ (zJ _ _ rfl) (alX B hX ?_); clear B hX; intro b_r11 wn zb r11 za zf hsx zk B hX; replace lm := lm.below za; replace rs1 := rs1.below za; replace r8 := r8.bl za; replace od := od.below za; replace r9 := r9.bl za; try replace oA := oA.below za
      try replace oB := oB.below za
      try replace r10 := r10.bl za
      refine hK _ _ ⟨fun _ => ⟨_, zw hX⟩, ?_⟩; clear hK K; try simp only [zR]
      simp only [zo]; refine zy 16 rfl (by kernel_rfl) rfl (fun K hK => ?_); try simp only [zR]
      refine zM (t := 30) _ _ _ _ rfl rfl rfl r10 (by kernel_rfl) rfl (by simp [stC, Value.oneCell']) (stX B hX (by omega) (by omega) ?_); have hn1 := od.neT r10 (by decide); have hn2 := oA.neT r10 (by decide); have hn3 := oB.neT r10 (by decide); have ho := r10; clear r10 B hX; intro wn r10 ze zf hsx zg B hX; replace od := od.chgB ze hn1; replace oA := oA.chgB ze hn2; replace oB := oB.chgB ze hn3; replace rs1 := rs1.chg ho (by simp [stC]) ze; clear hn1 hn2 hn3 ho; replace lm := lm.of_eq (ze.block _ lm.lt (by omega)); replace r8 := r8.of_eq (ze.block _ r8.lt (by omega)); replace r9 := r9.of_eq (ze.block _ r9.lt (by omega)); replace r11 := r11.of_eq (ze.block _ r11.lt (by omega)); refine hK _ _ ⟨fun _ => ⟨_, zw hX⟩, ?_⟩; clear hK K; try simp only [zR]
      simp only [zo]; refine zy 17 rfl (by kernel_rfl) rfl (fun K hK => ?_); try simp only [zR]
      refine zM (t := 30) _ _ _ _ rfl rfl rfl r11 (by kernel_rfl) rfl (by simp [stC, Value.oneCell']) (stX B hX (by omega) (by omega) ?_); have hn1 := od.neT r11 (by decide); have hn2 := oA.neT r11 (by decide); have hn3 := oB.neT r11 (by decide); have ho := r11; clear r11 B hX; intro wn r11 ze zf hsx zg B hX; replace od := od.chgB ze hn1; replace oA := oA.chgB ze hn2; replace oB := oB.chgB ze hn3; replace rs1 := rs1.chg ho (by simp [stC]) ze; clear hn1 hn2 hn3 ho; replace lm := lm.of_eq (ze.block _ lm.lt (by omega)); replace r8 := r8.of_eq (ze.block _ r8.lt (by omega)); replace r9 := r9.of_eq (ze.block _ r9.lt (by omega)); replace r10 := r10.of_eq (ze.block _ r10.lt (by omega)); refine hK _ _ ⟨fun _ => ⟨_, zw hX⟩, ?_⟩; clear hK K; try simp only [zR]
      simp only [zo]; refine zy 18 rfl (by kernel_rfl) rfl (fun K hK => ?_); try simp only [zR]
      refine BigFrame.wp_assign _ rfl ?_; refine hK _ _ ⟨fun _ => ⟨_, zw hX⟩, ?_⟩; clear hK K; try simp only [zR]
      simp only [zo]; refine zV (by kernel_rfl) (by kernel_rfl) ?_; simp only [List.drop_succ_cons, List.drop_zero]; refine wpList_nil ?_; refine zN.normal ?_; go_wp2_with fail
      go_meet; exact ⟨b_r10, b_r11, aa, na, ca, ab, nb, cb, rfl, rfl, rfl, oA.rs, oB.rs, r10, r11, B, lm, rs1, r8, od.rs, r9⟩
     ·skip
      try simp only [zR]
      refine zD (t := 30) _ (zJ _ _ rfl) (alX B hX ?_); clear B hX; intro b_r11 wn zb r11 za zf hsx zk B hX; replace lm := lm.below za; replace rs1 := rs1.below za; replace r8 := r8.bl za; replace od := od.below za; replace r9 := r9.bl za; try replace oA := oA.below za
      try replace oB := oB.below za
      try replace r10 := r10.bl za
      refine hK _ _ ⟨fun _ => ⟨_, zw hX⟩, ?_⟩; clear hK K; try simp only [zR]
      simp only [zo]; refine zy 14 rfl (by kernel_rfl) rfl (fun K hK => ?_); try simp only [zR]
      refine zD (t := 30) _ (zJ _ _ rfl) (alX B hX ?_); clear B hX; intro b_r10 wn zb r10 za zf hsx zk B hX; replace lm := lm.below za; replace rs1 := rs1.below za; replace r8 := r8.bl za; replace od := od.below za; replace r9 := r9.bl za; try replace oA := oA.below za
      try replace oB := oB.below za
      try replace r11 := r11.bl za
      refine hK _ _ ⟨fun _ => ⟨_, zw hX⟩, ?_⟩; clear hK K; try simp only [zR]
      simp only [zo]; refine zy 16 rfl (by kernel_rfl) rfl (fun K hK => ?_); try simp only [zR]
      refine zM (t := 30) _ _ _ _ rfl rfl rfl r10 (by kernel_rfl) rfl (by simp [stC, Value.oneCell']) (stX B hX (by omega) (by omega) ?_); have hn1 := od.neT r10 (by decide); have hn2 := oA.neT r10 (by decide); have hn3 := oB.neT r10 (by decide); have ho := r10; clear r10 B hX; intro wn r10 ze zf hsx zg B hX; replace od := od.chgB ze hn1; replace oA := oA.chgB ze hn2; replace oB := oB.chgB ze hn3; replace rs1 := rs1.chg ho (by simp [stC]) ze; clear hn1 hn2 hn3 ho; replace lm := lm.of_eq (ze.block _ lm.lt (by omega)); replace r8 := r8.of_eq (ze.block _ r8.lt (by omega)); replace r9 := r9.of_eq (ze.block _ r9.lt (by omega)); replace r11 := r11.of_eq (ze.block _ r11.lt (by omega)); refine hK _ _ ⟨fun _ => ⟨_, zw hX⟩, ?_⟩; clear hK K; try simp only [zR]
      simp only [zo]; refine zy 17 rfl (by kernel_rfl) rfl (fun K hK => ?_); try simp only [zR]
      refine zM (t := 30) _ _ _ _ rfl rfl rfl r11 (by kernel_rfl) rfl (by simp [stC, Value.oneCell']) (stX B hX (by omega) (by omega) ?_); have hn1 := od.neT r11 (by decide); have hn2 := oA.neT r11 (by decide); have hn3 := oB.neT r11 (by decide); have ho := r11; clear r11 B hX; intro wn r11 ze zf hsx zg B hX; replace od := od.chgB ze hn1; replace oA := oA.chgB ze hn2; replace oB := oB.chgB ze hn3; replace rs1 := rs1.chg ho (by simp [stC]) ze; clear hn1 hn2 hn3 ho; replace lm := lm.of_eq (ze.block _ lm.lt (by omega)); replace r8 := r8.of_eq (ze.block _ r8.lt (by omega)); replace r9 := r9.of_eq (ze.block _ r9.lt (by omega)); replace r10 := r10.of_eq (ze.block _ r10.lt (by omega)); refine hK _ _ ⟨fun _ => ⟨_, zw hX⟩, ?_⟩; clear hK K; try simp only [zR]
      simp only [zo]; refine zy 18 rfl (by kernel_rfl) rfl (fun K hK => ?_); try simp only [zR]
      refine BigFrame.wp_assign _ rfl ?_; refine hK _ _ ⟨fun _ => ⟨_, zw hX⟩, ?_⟩; clear hK K; try simp only [zR]
      simp only [zo]; refine zV (by kernel_rfl) (by kernel_rfl) ?_; simp only [List.drop_succ_cons, List.drop_zero]; refine wpList_nil ?_; refine zN.normal ?_; go_wp2_with fail
      go_meet; exact ⟨b_r10, b_r11, aa, na, ca, ab, nb, cb, rfl, rfl, rfl, oA.rs, oB.rs, r10, r11, B, lm, rs1, r8, od.rs, r9⟩
    ·skip
     try simp only [zR]
     refine zD (t := 30) _ (zJ _ _ rfl) (alX B hX ?_); clear B hX; intro b_r10 wn zb r10 za zf hsx zk B hX; replace lm := lm.below za; replace rs1 := rs1.below za; replace r8 := r8.bl za; replace od := od.below za; replace r9 := r9.bl za; try replace oA := oA.below za
     try replace oB := oB.below za
     try replace r11 := r11.bl za
     refine hK _ _ ⟨fun _ => ⟨_, zw hX⟩, ?_⟩; clear hK K; try simp only [zR]
     simp only [zo]; refine qN 9 15 rfl rfl (by kernel_rfl) rfl rfl (fun K hK => ?_) (fun K hK => ?_)
     ·skip
      try simp only [zR]
      go_simp
      go_at_call 26
      refine (j9 _ S (1 + r) _ _ od.rs MV.out (by omega) (by rw [HN.out]; omega) (by go_num)).mono ?_
      rintro e wn ⟨aa, na, ca, ab, nb, cb, rfl, oA, oB, za⟩; have zf := B.size; have zg := za.size; have hsx := hX.size; replace B := B.trans (za.mono B.size); replace hX := hX.trans (za.mono hX.size); replace lm := lm.below za; replace rs1 := rs1.below za; replace r8 := r8.bl za; replace od := od.below za; replace r9 := r9.bl za; try replace r10 := r10.bl za
      try replace r11 := r11.bl za
      refine hK _ _ ⟨fun _ => ⟨_, zw hX⟩, ?_⟩; clear hK K; try simp only [zR]
      simp only [zo]; refine zx 10 rfl (by kernel_rfl) ⟨_, zw hX⟩ ?_; intro K hK; try simp only [zR]
      (first | (go_big_quiet_op; go_big_quiet_on))
      simp only [zo]; refine zx 11 rfl (by kernel_rfl) ⟨_, zw hX⟩ ?_; intro K hK; try simp only [zR]
      (first | (go_big_quiet_op; go_big_quiet_on))
      simp only [zo]; refine zx 12 rfl (by kernel_rfl) ⟨_, zw hX⟩ ?_; intro K hK; try simp only [zR]
      (first | (go_big_quiet_op; go_big_quiet_on))
      simp only [zo]; refine zx 13 rfl (by kernel_rfl) ⟨_, zw hX⟩ ?_; intro K hK; try simp only [zR]
      (first | (go_big_quiet_op; go_big_quiet_on))
      simp only [zo]; refine zy 15 rfl (by kernel_rfl) rfl (fun K hK => ?_); try simp only [zR]
      refine zD (t := 30) _ (zJ _ _ rfl) (alX B hX ?_); clear B hX; intro b_r11 wn zb r11 za zf hsx zk B hX; replace lm := lm.below za; replace rs1 := rs1.below za; replace r8 := r8.bl za; replace od := od.below za; replace r9 := r9.bl za; try replace oA := oA.below za
      try replace oB := oB.below za
      try replace r10 := r10.bl za
      refine hK _ _ ⟨fun _ => ⟨_, zw hX⟩, ?_⟩; clear hK K; try simp only [zR]
      simp only [zo]; refine zy 16 rfl (by kernel_rfl) rfl (fun K hK => ?_); try simp only [zR]
      refine zM (t := 30) _ _ _ _ rfl rfl rfl r10 (by kernel_rfl) rfl (by simp [stC, Value.oneCell']) (stX B hX (by omega) (by omega) ?_); have hn1 := od.neT r10 (by decide); have hn2 := oA.neT r10 (by decide); have hn3 := oB.neT r10 (by decide); have ho := r10; clear r10 B hX; intro wn r10 ze zf hsx zg B hX; replace od := od.chgB ze hn1; replace oA := oA.chgB ze hn2; replace oB := oB.chgB ze hn3; replace rs1 := rs1.chg ho (by simp [stC]) ze; clear hn1 hn2 hn3 ho; replace lm := lm.of_eq (ze.block _ lm.lt (by omega)); replace r8 := r8.of_eq (ze.block _ r8.lt (by omega)); replace r9 := r9.of_eq (ze.block _ r9.lt (by omega)); replace r11 := r11.of_eq (ze.block _ r11.lt (by omega)); refine hK _ _ ⟨fun _ => ⟨_, zw hX⟩, ?_⟩; clear hK K; try simp only [zR]
      simp only [zo]; refine zy 17 rfl (by kernel_rfl) rfl (fun K hK => ?_); try simp only [zR]
      refine zM (t := 30) _ _ _ _ rfl rfl rfl r11 (by kernel_rfl) rfl (by simp [stC, Value.oneCell']) (stX B hX (by omega) (by omega) ?_); have hn1 := od.neT r11 (by decide); have hn2 := oA.neT r11 (by decide); have hn3 := oB.neT r11 (by decide); have ho := r11; clear r11 B hX; intro wn r11 ze zf hsx zg B hX; replace od := od.chgB ze hn1; replace oA := oA.chgB ze hn2; replace oB := oB.chgB ze hn3; replace rs1 := rs1.chg ho (by simp [stC]) ze; clear hn1 hn2 hn3 ho; replace lm := lm.of_eq (ze.block _ lm.lt (by omega)); replace r8 := r8.of_eq (ze.block _ r8.lt (by omega)); replace r9 := r9.of_eq (ze.block _ r9.lt (by omega)); replace r10 := r10.of_eq (ze.block _ r10.lt (by omega)); refine hK _ _ ⟨fun _ => ⟨_, zw hX⟩, ?_⟩; clear hK K; try simp only [zR]
      simp only [zo]; refine zy 18 rfl (by kernel_rfl) rfl (fun K hK => ?_); try simp only [zR]
      refine BigFrame.wp_assign _ rfl ?_; refine hK _ _ ⟨fun _ => ⟨_, zw hX⟩, ?_⟩; clear hK K; try simp only [zR]
      simp only [zo]; refine zV (by kernel_rfl) (by kernel_rfl) ?_; simp only [List.drop_succ_cons, List.drop_zero]; refine wpList_nil ?_; refine zN.normal ?_; go_wp2_with fail
      go_meet; exact ⟨b_r10, b_r11, aa, na, ca, ab, nb, cb, rfl, rfl, rfl, oA.rs, oB.rs, r10, r11, B, lm, rs1, r8, od.rs, r9⟩
     ·skip
      try simp only [zR]
      refine zD (t := 30) _ (zJ _ _ rfl) (alX B hX ?_); clear B hX; intro b_r11 wn zb r11 za zf hsx zk B hX; replace lm := lm.below za; replace rs1 := rs1.below za; replace r8 := r8.bl za; replace od := od.below za; replace r9 := r9.bl za; try replace oA := oA.below za
      try replace oB := oB.below za
      try replace r10 := r10.bl za
      refine hK _ _ ⟨fun _ => ⟨_, zw hX⟩, ?_⟩; clear hK K; try simp only [zR]
      simp only [zo]; refine zy 9 rfl (by kernel_rfl) rfl (fun K hK => ?_); try simp only [zR]
      go_simp
      go_at_call 26
      refine (j9 _ S (1 + r) _ _ od.rs MV.out (by omega) (by rw [HN.out]; omega) (by go_num)).mono ?_
      rintro e wn ⟨aa, na, ca, ab, nb, cb, rfl, oA, oB, za⟩; have zf := B.size; have zg := za.size; have hsx := hX.size; replace B := B.trans (za.mono B.size); replace hX := hX.trans (za.mono hX.size); replace lm := lm.below za; replace rs1 := rs1.below za; replace r8 := r8.bl za; replace od := od.below za; replace r9 := r9.bl za; try replace r10 := r10.bl za
      try replace r11 := r11.bl za
      refine hK _ _ ⟨fun _ => ⟨_, zw hX⟩, ?_⟩; clear hK K; try simp only [zR]
      simp only [zo]; refine zx 10 rfl (by kernel_rfl) ⟨_, zw hX⟩ ?_; intro K hK; try simp only [zR]
      (first | (go_big_quiet_op; go_big_quiet_on))
      simp only [zo]; refine zx 11 rfl (by kernel_rfl) ⟨_, zw hX⟩ ?_; intro K hK; try simp only [zR]
      (first | (go_big_quiet_op; go_big_quiet_on))
      simp only [zo]; refine zx 12 rfl (by kernel_rfl) ⟨_, zw hX⟩ ?_; intro K hK; try simp only [zR]
      (first | (go_big_quiet_op; go_big_quiet_on))
      simp only [zo]; refine zx 13 rfl (by kernel_rfl) ⟨_, zw hX⟩ ?_; intro K hK; try simp only [zR]
      (first | (go_big_quiet_op; go_big_quiet_on))
      simp only [zo]; refine zy 16 rfl (by kernel_rfl) rfl (fun K hK => ?_); try simp only [zR]
      refine zM (t := 30) _ _ _ _ rfl rfl rfl r10 (by kernel_rfl) rfl (by simp [stC, Value.oneCell']) (stX B hX (by omega) (by omega) ?_); have hn1 := od.neT r10 (by decide); have hn2 := oA.neT r10 (by decide); have hn3 := oB.neT r10 (by decide); have ho := r10; clear r10 B hX; intro wn r10 ze zf hsx zg B hX; replace od := od.chgB ze hn1; replace oA := oA.chgB ze hn2; replace oB := oB.chgB ze hn3; replace rs1 := rs1.chg ho (by simp [stC]) ze; clear hn1 hn2 hn3 ho; replace lm := lm.of_eq (ze.block _ lm.lt (by omega)); replace r8 := r8.of_eq (ze.block _ r8.lt (by omega)); replace r9 := r9.of_eq (ze.block _ r9.lt (by omega)); replace r11 := r11.of_eq (ze.block _ r11.lt (by omega)); refine hK _ _ ⟨fun _ => ⟨_, zw hX⟩, ?_⟩; clear hK K; try simp only [zR]
      simp only [zo]; refine zy 17 rfl (by kernel_rfl) rfl (fun K hK => ?_); try simp only [zR]
      refine zM (t := 30) _ _ _ _ rfl rfl rfl r11 (by kernel_rfl) rfl (by simp [stC, Value.oneCell']) (stX B hX (by omega) (by omega) ?_); have hn1 := od.neT r11 (by decide); have hn2 := oA.neT r11 (by decide); have hn3 := oB.neT r11 (by decide); have ho := r11; clear r11 B hX; intro wn r11 ze zf hsx zg B hX; replace od := od.chgB ze hn1; replace oA := oA.chgB ze hn2; replace oB := oB.chgB ze hn3; replace rs1 := rs1.chg ho (by simp [stC]) ze; clear hn1 hn2 hn3 ho; replace lm := lm.of_eq (ze.block _ lm.lt (by omega)); replace r8 := r8.of_eq (ze.block _ r8.lt (by omega)); replace r9 := r9.of_eq (ze.block _ r9.lt (by omega)); replace r10 := r10.of_eq (ze.block _ r10.lt (by omega)); refine hK _ _ ⟨fun _ => ⟨_, zw hX⟩, ?_⟩; clear hK K; try simp only [zR]
      simp only [zo]; refine zy 18 rfl (by kernel_rfl) rfl (fun K hK => ?_); try simp only [zR]
      refine BigFrame.wp_assign _ rfl ?_; refine hK _ _ ⟨fun _ => ⟨_, zw hX⟩, ?_⟩; clear hK K; try simp only [zR]
      simp only [zo]; refine zV (by kernel_rfl) (by kernel_rfl) ?_; simp only [List.drop_succ_cons, List.drop_zero]; refine wpList_nil ?_; refine zN.normal ?_; go_wp2_with fail
      go_meet; exact ⟨b_r10, b_r11, aa, na, ca, ab, nb, cb, rfl, rfl, rfl, oA.rs, oB.rs, r10, r11, B, lm, rs1, r8, od.rs, r9⟩
    ·skip
     try simp only [zR]
     refine zD (t := 30) _ (zJ _ _ rfl) (alX B hX ?_); clear B hX; intro b_r11 wn zb r11 za zf hsx zk B hX; replace lm := lm.below za; replace rs1 := rs1.below za; replace r8 := r8.bl za; replace od := od.below za; replace r9 := r9.bl za; try replace oA := oA.below za
     try replace oB := oB.below za
     try replace r10 := r10.bl za
     refine hK _ _ ⟨fun _ => ⟨_, zw hX⟩, ?_⟩; clear hK K; try simp only [zR]
     simp only [zo]; refine qN 9 14 rfl rfl (by kernel_rfl) rfl rfl (fun K hK => ?_) (fun K hK => ?_)
     ·skip
      try simp only [zR]
      go_simp
      go_at_call 26
      refine (j9 _ S (1 + r) _ _ od.rs MV.out (by omega) (by rw [HN.out]; omega) (by go_num)).mono ?_
      rintro e wn ⟨aa, na, ca, ab, nb, cb, rfl, oA, oB, za⟩; have zf := B.size; have zg := za.size; have hsx := hX.size; replace B := B.trans (za.mono B.size); replace hX := hX.trans (za.mono hX.size); replace lm := lm.below za; replace rs1 := rs1.below za; replace r8 := r8.bl za; replace od := od.below za; replace r9 := r9.bl za; try replace r10 := r10.bl za
      try replace r11 := r11.bl za
      refine hK _ _ ⟨fun _ => ⟨_, zw hX⟩, ?_⟩; clear hK K; try simp only [zR]
      simp only [zo]; refine zx 10 rfl (by kernel_rfl) ⟨_, zw hX⟩ ?_; intro K hK; try simp only [zR]
      (first | (go_big_quiet_op; go_big_quiet_on))
      simp only [zo]; refine zx 11 rfl (by kernel_rfl) ⟨_, zw hX⟩ ?_; intro K hK; try simp only [zR]
      (first | (go_big_quiet_op; go_big_quiet_on))
      simp only [zo]; refine zx 12 rfl (by kernel_rfl) ⟨_, zw hX⟩ ?_; intro K hK; try simp only [zR]
      (first | (go_big_quiet_op; go_big_quiet_on))
      simp only [zo]; refine zx 13 rfl (by kernel_rfl) ⟨_, zw hX⟩ ?_; intro K hK; try simp only [zR]
      (first | (go_big_quiet_op; go_big_quiet_on))
      simp only [zo]; refine zy 14 rfl (by kernel_rfl) rfl (fun K hK => ?_); try simp only [zR]
      refine zD (t := 30) _ (zJ _ _ rfl) (alX B hX ?_); clear B hX; intro b_r10 wn zb r10 za zf hsx zk B hX; replace lm := lm.below za; replace rs1 := rs1.below za; replace r8 := r8.bl za; replace od := od.below za; replace r9 := r9.bl za; try replace oA := oA.below za
      try replace oB := oB.below za
      try replace r11 := r11.bl za
      refine hK _ _ ⟨fun _ => ⟨_, zw hX⟩, ?_⟩; clear hK K; try simp only [zR]
      simp only [zo]; refine zy 16 rfl (by kernel_rfl) rfl (fun K hK => ?_); try simp only [zR]
      refine zM (t := 30) _ _ _ _ rfl rfl rfl r10 (by kernel_rfl) rfl (by simp [stC, Value.oneCell']) (stX B hX (by omega) (by omega) ?_); have hn1 := od.neT r10 (by decide); have hn2 := oA.neT r10 (by decide); have hn3 := oB.neT r10 (by decide); have ho := r10; clear r10 B hX; intro wn r10 ze zf hsx zg B hX; replace od := od.chgB ze hn1; replace oA := oA.chgB ze hn2; replace oB := oB.chgB ze hn3; replace rs1 := rs1.chg ho (by simp [stC]) ze; clear hn1 hn2 hn3 ho; replace lm := lm.of_eq (ze.block _ lm.lt (by omega)); replace r8 := r8.of_eq (ze.block _ r8.lt (by omega)); replace r9 := r9.of_eq (ze.block _ r9.lt (by omega)); replace r11 := r11.of_eq (ze.block _ r11.lt (by omega)); refine hK _ _ ⟨fun _ => ⟨_, zw hX⟩, ?_⟩; clear hK K; try simp only [zR]
      simp only [zo]; refine zy 17 rfl (by kernel_rfl) rfl (fun K hK => ?_); try simp only [zR]
      refine zM (t := 30) _ _ _ _ rfl rfl rfl r11 (by kernel_rfl) rfl (by simp [stC, Value.oneCell']) (stX B hX (by omega) (by omega) ?_); have hn1 := od.neT r11 (by decide); have hn2 := oA.neT r11 (by decide); have hn3 := oB.neT r11 (by decide); have ho := r11; clear r11 B hX; intro wn r11 ze zf hsx zg B hX; replace od := od.chgB ze hn1; replace oA := oA.chgB ze hn2; replace oB := oB.chgB ze hn3; replace rs1 := rs1.chg ho (by simp [stC]) ze; clear hn1 hn2 hn3 ho; replace lm := lm.of_eq (ze.block _ lm.lt (by omega)); replace r8 := r8.of_eq (ze.block _ r8.lt (by omega)); replace r9 := r9.of_eq (ze.block _ r9.lt (by omega)); replace r10 := r10.of_eq (ze.block _ r10.lt (by omega)); refine hK _ _ ⟨fun _ => ⟨_, zw hX⟩, ?_⟩; clear hK K; try simp only [zR]
      simp only [zo]; refine zy 18 rfl (by kernel_rfl) rfl (fun K hK => ?_); try simp only [zR]
      refine BigFrame.wp_assign _ rfl ?_; refine hK _ _ ⟨fun _ => ⟨_, zw hX⟩, ?_⟩; clear hK K; try simp only [zR]
      simp only [zo]; refine zV (by kernel_rfl) (by kernel_rfl) ?_; simp only [List.drop_succ_cons, List.drop_zero]; refine wpList_nil ?_; refine zN.normal ?_; go_wp2_with fail
      go_meet; exact ⟨b_r10, b_r11, aa, na, ca, ab, nb, cb, rfl, rfl, rfl, oA.rs, oB.rs, r10, r11, B, lm, rs1, r8, od.rs, r9⟩
     ·skip
      try simp only [zR]
      refine zD (t := 30) _ (zJ _ _ rfl) (alX B hX ?_); clear B hX; intro b_r10 wn zb r10 za zf hsx zk B hX; replace lm := lm.below za; replace rs1 := rs1.below za; replace r8 := r8.bl za; replace od := od.below za; replace r9 := r9.bl za; try replace oA := oA.below za
      try replace oB := oB.below za
      try replace r11 := r11.bl za
      refine hK _ _ ⟨fun _ => ⟨_, zw hX⟩, ?_⟩; clear hK K; try simp only [zR]
      simp only [zo]; refine zy 9 rfl (by kernel_rfl) rfl (fun K hK => ?_); try simp only [zR]
      go_simp
      go_at_call 26
      refine (j9 _ S (1 + r) _ _ od.rs MV.out (by omega) (by rw [HN.out]; omega) (by go_num)).mono ?_
      rintro e wn ⟨aa, na, ca, ab, nb, cb, rfl, oA, oB, za⟩; have zf := B.size; have zg := za.size; have hsx := hX.size; replace B := B.trans (za.mono B.size); replace hX := hX.trans (za.mono hX.size); replace lm := lm.below za; replace rs1 := rs1.below za; replace r8 := r8.bl za; replace od := od.below za; replace r9 := r9.bl za; try replace r10 := r10.bl za
      try replace r11 := r11.bl za
      refine hK _ _ ⟨fun _ => ⟨_, zw hX⟩, ?_⟩; clear hK K; try simp only [zR]
      simp only [zo]; refine zx 10 rfl (by kernel_rfl) ⟨_, zw hX⟩ ?_; intro K hK; try simp only [zR]
      (first | (go_big_quiet_op; go_big_quiet_on))
      simp only [zo]; refine zx 11 rfl (by kernel_rfl) ⟨_, zw hX⟩ ?_; intro K hK; try simp only [zR]
      (first | (go_big_quiet_op; go_big_quiet_on))
      simp only [zo]; refine zx 12 rfl (by kernel_rfl) ⟨_, zw hX⟩ ?_; intro K hK; try simp only [zR]
      (first | (go_big_quiet_op; go_big_quiet_on))
      simp only [zo]; refine zx 13 rfl (by kernel_rfl) ⟨_, zw hX⟩ ?_; intro K hK; try simp only [zR]
      (first | (go_big_quiet_op; go_big_quiet_on))
      simp only [zo]; refine zy 16 rfl (by kernel_rfl) rfl (fun K hK => ?_); try simp only [zR]
      refine zM (t := 30) _ _ _ _ rfl rfl rfl r10 (by kernel_rfl) rfl (by simp [stC, Value.oneCell']) (stX B hX (by omega) (by omega) ?_); have hn1 := od.neT r10 (by decide); have hn2 := oA.neT r10 (by decide); have hn3 := oB.neT r10 (by decide); have ho := r10; clear r10 B hX; intro wn r10 ze zf hsx zg B hX; replace od := od.chgB ze hn1; replace oA := oA.chgB ze hn2; replace oB := oB.chgB ze hn3; replace rs1 := rs1.chg ho (by simp [stC]) ze; clear hn1 hn2 hn3 ho; replace lm := lm.of_eq (ze.block _ lm.lt (by omega)); replace r8 := r8.of_eq (ze.block _ r8.lt (by omega)); replace r9 := r9.of_eq (ze.block _ r9.lt (by omega)); replace r11 := r11.of_eq (ze.block _ r11.lt (by omega)); refine hK _ _ ⟨fun _ => ⟨_, zw hX⟩, ?_⟩; clear hK K; try simp only [zR]
      simp only [zo]; refine zy 17 rfl (by kernel_rfl) rfl (fun K hK => ?_); try simp only [zR]
      refine zM (t := 30) _ _ _ _ rfl rfl rfl r11 (by kernel_rfl) rfl (by simp [stC, Value.oneCell']) (stX B hX (by omega) (by omega) ?_); have hn1 := od.neT r11 (by decide); have hn2 := oA.neT r11 (by decide); have hn3 := oB.neT r11 (by decide); have ho := r11; clear r11 B hX; intro wn r11 ze zf hsx zg B hX; replace od := od.chgB ze hn1; replace oA := oA.chgB ze hn2; replace oB := oB.chgB ze hn3; replace rs1 := rs1.chg ho (by simp [stC]) ze; clear hn1 hn2 hn3 ho; replace lm := lm.of_eq (ze.block _ lm.lt (by omega)); replace r8 := r8.of_eq (ze.block _ r8.lt (by omega)); replace r9 := r9.of_eq (ze.block _ r9.lt (by omega)); replace r10 := r10.of_eq (ze.block _ r10.lt (by omega)); refine hK _ _ ⟨fun _ => ⟨_, zw hX⟩, ?_⟩; clear hK K; try simp only [zR]
      simp only [zo]; refine zy 18 rfl (by kernel_rfl) rfl (fun K hK => ?_); try simp only [zR]
      refine BigFrame.wp_assign _ rfl ?_; refine hK _ _ ⟨fun _ => ⟨_, zw hX⟩, ?_⟩; clear hK K; try simp only [zR]
      simp only [zo]; refine zV (by kernel_rfl) (by kernel_rfl) ?_; simp only [List.drop_succ_cons, List.drop_zero]; refine wpList_nil ?_; refine zN.normal ?_; go_wp2_with fail
      go_meet; exact ⟨b_r10, b_r11, aa, na, ca, ab, nb, cb, rfl, rfl, rfl, oA.rs, oB.rs, r10, r11, B, lm, rs1, r8, od.rs, r9⟩
   ·skip
    try simp only [zR]
    refine zD (t := 30) _ (zJ _ _ rfl) (alX B hX ?_); clear B hX; intro b_r10 wn zb r10 za zf hsx zk B hX; replace lm := lm.below za; replace rs1 := rs1.below za; replace r8 := r8.bl za; replace od := od.below za; replace r9 := r9.bl za; try replace oA := oA.below za
    try replace oB := oB.below za
    try replace r11 := r11.bl za
    refine hK _ _ ⟨fun _ => ⟨_, zw hX⟩, ?_⟩; clear hK K; try simp only [zR]
    simp only [zo]; refine qN 5 15 rfl rfl (by kernel_rfl) rfl rfl (fun K hK => ?_) (fun K hK => ?_)
    ·skip
     try simp only [zR]
     refine yw rfl Tryz.underlying26 rfl ?_; refine hK _ _ ⟨fun _ => ⟨_, zw hX⟩, ?_⟩; clear hK K; try simp only [zR]
     simp only [zo]; refine zx 6 rfl (by kernel_rfl) ⟨_, zw hX⟩ ?_; intro K hK; try simp only [zR]
     (first | (go_big_quiet_op; go_big_quiet_on))
     simp only [zo]; refine zx 7 rfl (by kernel_rfl) ⟨_, zw hX⟩ ?_; intro K hK; try simp only [zR]
     (first | (go_big_quiet_op; go_big_quiet_on))
     simp only [zo]; refine zx 8 rfl (by kernel_rfl) ⟨_, zw hX⟩ ?_; intro K hK; try simp only [zR]
     (first | (go_big_quiet_op; go_big_quiet_on))
     simp only [zo]; refine qN 9 15 rfl rfl (by kernel_rfl) rfl rfl (fun K hK => ?_) (fun K hK => ?_)
     ·skip
      try simp only [zR]
      go_simp
      go_at_call 26
      refine (j9 _ S (1 + r) _ _ od.rs MV.out (by omega) (by rw [HN.out]; omega) (by go_num)).mono ?_
      rintro e wn ⟨aa, na, ca, ab, nb, cb, rfl, oA, oB, za⟩; have zf := B.size; have zg := za.size; have hsx := hX.size; replace B := B.trans (za.mono B.size); replace hX := hX.trans (za.mono hX.size); replace lm := lm.below za; replace rs1 := rs1.below za; replace r8 := r8.bl za; replace od := od.below za; replace r9 := r9.bl za; try replace r10 := r10.bl za
      try replace r11 := r11.bl za
      refine hK _ _ ⟨fun _ => ⟨_, zw hX⟩, ?_⟩; clear hK K; try simp only [zR]
      simp only [zo]; refine zx 10 rfl (by kernel_rfl) ⟨_, zw hX⟩ ?_; intro K hK; try simp only [zR]
      (first | (go_big_quiet_op; go_big_quiet_on))
      simp only [zo]; refine zx 11 rfl (by kernel_rfl) ⟨_, zw hX⟩ ?_; intro K hK; try simp only [zR]
      (first | (go_big_quiet_op; go_big_quiet_on))
      simp only [zo]; refine zx 12 rfl (by kernel_rfl) ⟨_, zw hX⟩ ?_; intro K hK; try simp only [zR]
      (first | (go_big_quiet_op; go_big_quiet_on))
      simp only [zo]; refine zx 13 rfl (by kernel_rfl) ⟨_, zw hX⟩ ?_; intro K hK; try simp only [zR]
      (first | (go_big_quiet_op; go_big_quiet_on))
      simp only [zo]; refine zy 15 rfl (by kernel_rfl) rfl (fun K hK => ?_); try simp only [zR]
      refine zD (t := 30) _ (zJ _ _ rfl) (alX B hX ?_); clear B hX; intro b_r11 wn zb r11 za zf hsx zk B hX; replace lm := lm.below za; replace rs1 := rs1.below za; replace r8 := r8.bl za; replace od := od.below za; replace r9 := r9.bl za; try replace oA := oA.below za
      try replace oB := oB.below za
      try replace r10 := r10.bl za
      refine hK _ _ ⟨fun _ => ⟨_, zw hX⟩, ?_⟩; clear hK K; try simp only [zR]
      simp only [zo]; refine zy 16 rfl (by kernel_rfl) rfl (fun K hK => ?_); try simp only [zR]
      refine zM (t := 30) _ _ _ _ rfl rfl rfl r10 (by kernel_rfl) rfl (by simp [stC, Value.oneCell']) (stX B hX (by omega) (by omega) ?_); have hn1 := od.neT r10 (by decide); have hn2 := oA.neT r10 (by decide); have hn3 := oB.neT r10 (by decide); have ho := r10; clear r10 B hX; intro wn r10 ze zf hsx zg B hX; replace od := od.chgB ze hn1; replace oA := oA.chgB ze hn2; replace oB := oB.chgB ze hn3; replace rs1 := rs1.chg ho (by simp [stC]) ze; clear hn1 hn2 hn3 ho; replace lm := lm.of_eq (ze.block _ lm.lt (by omega)); replace r8 := r8.of_eq (ze.block _ r8.lt (by omega)); replace r9 := r9.of_eq (ze.block _ r9.lt (by omega)); replace r11 := r11.of_eq (ze.block _ r11.lt (by omega)); refine hK _ _ ⟨fun _ => ⟨_, zw hX⟩, ?_⟩; clear hK K; try simp only [zR]
      simp only [zo]; refine zy 17 rfl (by kernel_rfl) rfl (fun K hK => ?_); try simp only [zR]
      refine zM (t := 30) _ _ _ _ rfl rfl rfl r11 (by kernel_rfl) rfl (by simp [stC, Value.oneCell']) (stX B hX (by omega) (by omega) ?_); have hn1 := od.neT r11 (by decide); have hn2 := oA.neT r11 (by decide); have hn3 := oB.neT r11 (by decide); have ho := r11; clear r11 B hX; intro wn r11 ze zf hsx zg B hX; replace od := od.chgB ze hn1; replace oA := oA.chgB ze hn2; replace oB := oB.chgB ze hn3; replace rs1 := rs1.chg ho (by simp [stC]) ze; clear hn1 hn2 hn3 ho; replace lm := lm.of_eq (ze.block _ lm.lt (by omega)); replace r8 := r8.of_eq (ze.block _ r8.lt (by omega)); replace r9 := r9.of_eq (ze.block _ r9.lt (by omega)); replace r10 := r10.of_eq (ze.block _ r10.lt (by omega)); refine hK _ _ ⟨fun _ => ⟨_, zw hX⟩, ?_⟩; clear hK K; try simp only [zR]
      simp only [zo]; refine zy 18 rfl (by kernel_rfl) rfl (fun K hK => ?_); try simp only [zR]
      refine BigFrame.wp_assign _ rfl ?_; refine hK _ _ ⟨fun _ => ⟨_, zw hX⟩, ?_⟩; clear hK K; try simp only [zR]
      simp only [zo]; refine zV (by kernel_rfl) (by kernel_rfl) ?_; simp only [List.drop_succ_cons, List.drop_zero]; refine wpList_nil ?_; refine zN.normal ?_; go_wp2_with fail
      go_meet; exact ⟨b_r10, b_r11, aa, na, ca, ab, nb, cb, rfl, rfl, rfl, oA.rs, oB.rs, r10, r11, B, lm, rs1, r8, od.rs, r9⟩
     ·skip
      try simp only [zR]
      refine zD (t := 30) _ (zJ _ _ rfl) (alX B hX ?_); clear B hX; intro b_r11 wn zb r11 za zf hsx zk B hX; replace lm := lm.below za; replace rs1 := rs1.below za; replace r8 := r8.bl za; replace od := od.below za; replace r9 := r9.bl za; try replace oA := oA.below za
      try replace oB := oB.below za
      try replace r10 := r10.bl za
      refine hK _ _ ⟨fun _ => ⟨_, zw hX⟩, ?_⟩; clear hK K; try simp only [zR]
      simp only [zo]; refine zy 9 rfl (by kernel_rfl) rfl (fun K hK => ?_); try simp only [zR]
      go_simp
      go_at_call 26
      refine (j9 _ S (1 + r) _ _ od.rs MV.out (by omega) (by rw [HN.out]; omega) (by go_num)).mono ?_
      rintro e wn ⟨aa, na, ca, ab, nb, cb, rfl, oA, oB, za⟩; have zf := B.size; have zg := za.size; have hsx := hX.size; replace B := B.trans (za.mono B.size); replace hX := hX.trans (za.mono hX.size); replace lm := lm.below za; replace rs1 := rs1.below za; replace r8 := r8.bl za; replace od := od.below za; replace r9 := r9.bl za; try replace r10 := r10.bl za
      try replace r11 := r11.bl za
      refine hK _ _ ⟨fun _ => ⟨_, zw hX⟩, ?_⟩; clear hK K; try simp only [zR]
      simp only [zo]; refine zx 10 rfl (by kernel_rfl) ⟨_, zw hX⟩ ?_; intro K hK; try simp only [zR]
      (first | (go_big_quiet_op; go_big_quiet_on))
      simp only [zo]; refine zx 11 rfl (by kernel_rfl) ⟨_, zw hX⟩ ?_; intro K hK; try simp only [zR]
      (first | (go_big_quiet_op; go_big_quiet_on))
      simp only [zo]; refine zx 12 rfl (by kernel_rfl) ⟨_, zw hX⟩ ?_; intro K hK; try simp only [zR]
      (first | (go_big_quiet_op; go_big_quiet_on))
      simp only [zo]; refine zx 13 rfl (by kernel_rfl) ⟨_, zw hX⟩ ?_; intro K hK; try simp only [zR]
      (first | (go_big_quiet_op; go_big_quiet_on))
      simp only [zo]; refine zy 16 rfl (by kernel_rfl) rfl (fun K hK => ?_); try simp only [zR]
      refine zM (t := 30) _ _ _ _ rfl rfl rfl r10 (by kernel_rfl) rfl (by simp [stC, Value.oneCell']) (stX B hX (by omega) (by omega) ?_); have hn1 := od.neT r10 (by decide); have hn2 := oA.neT r10 (by decide); have hn3 := oB.neT r10 (by decide); have ho := r10; clear r10 B hX; intro wn r10 ze zf hsx zg B hX; replace od := od.chgB ze hn1; replace oA := oA.chgB ze hn2; replace oB := oB.chgB ze hn3; replace rs1 := rs1.chg ho (by simp [stC]) ze; clear hn1 hn2 hn3 ho; replace lm := lm.of_eq (ze.block _ lm.lt (by omega)); replace r8 := r8.of_eq (ze.block _ r8.lt (by omega)); replace r9 := r9.of_eq (ze.block _ r9.lt (by omega)); replace r11 := r11.of_eq (ze.block _ r11.lt (by omega)); refine hK _ _ ⟨fun _ => ⟨_, zw hX⟩, ?_⟩; clear hK K; try simp only [zR]
      simp only [zo]; refine zy 17 rfl (by kernel_rfl) rfl (fun K hK => ?_); try simp only [zR]
      refine zM (t := 30) _ _ _ _ rfl rfl rfl r11 (by kernel_rfl) rfl (by simp [stC, Value.oneCell']) (stX B hX (by omega) (by omega) ?_); have hn1 := od.neT r11 (by decide); have hn2 := oA.neT r11 (by decide); have hn3 := oB.neT r11 (by decide); have ho := r11; clear r11 B hX; intro wn r11 ze zf hsx zg B hX; replace od := od.chgB ze hn1; replace oA := oA.chgB ze hn2; replace oB := oB.chgB ze hn3; replace rs1 := rs1.chg ho (by simp [stC]) ze; clear hn1 hn2 hn3 ho; replace lm := lm.of_eq (ze.block _ lm.lt (by omega)); replace r8 := r8.of_eq (ze.block _ r8.lt (by omega)); replace r9 := r9.of_eq (ze.block _ r9.lt (by omega)); replace r10 := r10.of_eq (ze.block _ r10.lt (by omega)); refine hK _ _ ⟨fun _ => ⟨_, zw hX⟩, ?_⟩; clear hK K; try simp only [zR]
      simp only [zo]; refine zy 18 rfl (by kernel_rfl) rfl (fun K hK => ?_); try simp only [zR]
      refine BigFrame.wp_assign _ rfl ?_; refine hK _ _ ⟨fun _ => ⟨_, zw hX⟩, ?_⟩; clear hK K; try simp only [zR]
      simp only [zo]; refine zV (by kernel_rfl) (by kernel_rfl) ?_; simp only [List.drop_succ_cons, List.drop_zero]; refine wpList_nil ?_; refine zN.normal ?_; go_wp2_with fail
      go_meet; exact ⟨b_r10, b_r11, aa, na, ca, ab, nb, cb, rfl, rfl, rfl, oA.rs, oB.rs, r10, r11, B, lm, rs1, r8, od.rs, r9⟩
    ·skip
     try simp only [zR]
     refine zD (t := 30) _ (zJ _ _ rfl) (alX B hX ?_); clear B hX; intro b_r11 wn zb r11 za zf hsx zk B hX; replace lm := lm.below za; replace rs1 := rs1.below za; replace r8 := r8.bl za; replace od := od.below za; replace r9 := r9.bl za; try replace oA := oA.below za
     try replace oB := oB.below za
     try replace r10 := r10.bl za
     refine hK _ _ ⟨fun _ => ⟨_, zw hX⟩, ?_⟩; clear hK K; try simp only [zR]
     simp only [zo]; refine zy 5 rfl (by kernel_rfl) rfl (fun K hK => ?_); try simp only [zR]
     refine yw rfl Tryz.underlying26 rfl ?_; refine hK _ _ ⟨fun _ => ⟨_, zw hX⟩, ?_⟩; clear hK K; try simp only [zR]
     simp only [zo]; refine zx 6 rfl (by kernel_rfl) ⟨_, zw hX⟩ ?_; intro K hK; try simp only [zR]
     (first | (go_big_quiet_op; go_big_quiet_on))
     simp only [zo]; refine zx 7 rfl (by kernel_rfl) ⟨_, zw hX⟩ ?_; intro K hK; try simp only [zR]
     (first | (go_big_quiet_op; go_big_quiet_on))
     simp only [zo]; refine zx 8 rfl (by kernel_rfl) ⟨_, zw hX⟩ ?_; intro K hK; try simp only [zR]
     (first | (go_big_quiet_op; go_big_quiet_on))
     simp only [zo]; refine zy 9 rfl (by kernel_rfl) rfl (fun K hK => ?_); try simp only [zR]
     go_simp
     go_at_call 26
     refine (j9 _ S (1 + r) _ _ od.rs MV.out (by omega) (by rw [HN.out]; omega) (by go_num)).mono ?_
     rintro e wn ⟨aa, na, ca, ab, nb, cb, rfl, oA, oB, za⟩; have zf := B.size; have zg := za.size; have hsx := hX.size; replace B := B.trans (za.mono B.size); replace hX := hX.trans (za.mono hX.size); replace lm := lm.below za; replace rs1 := rs1.below za; replace r8 := r8.bl za; replace od := od.below za; replace r9 := r9.bl za; try replace r10 := r10.bl za
     try replace r11 := r11.bl za
     refine hK _ _ ⟨fun _ => ⟨_, zw hX⟩, ?_⟩; clear hK K; try simp only [zR]
     simp only [zo]; refine zx 10 rfl (by kernel_rfl) ⟨_, zw hX⟩ ?_; intro K hK; try simp only [zR]
     (first | (go_big_quiet_op; go_big_quiet_on))
     simp only [zo]; refine zx 11 rfl (by kernel_rfl) ⟨_, zw hX⟩ ?_; intro K hK; try simp only [zR]
     (first | (go_big_quiet_op; go_big_quiet_on))
     simp only [zo]; refine zx 12 rfl (by kernel_rfl) ⟨_, zw hX⟩ ?_; intro K hK; try simp only [zR]
     (first | (go_big_quiet_op; go_big_quiet_on))
     simp only [zo]; refine zx 13 rfl (by kernel_rfl) ⟨_, zw hX⟩ ?_; intro K hK; try simp only [zR]
     (first | (go_big_quiet_op; go_big_quiet_on))
     simp only [zo]; refine zy 16 rfl (by kernel_rfl) rfl (fun K hK => ?_); try simp only [zR]
     refine zM (t := 30) _ _ _ _ rfl rfl rfl r10 (by kernel_rfl) rfl (by simp [stC, Value.oneCell']) (stX B hX (by omega) (by omega) ?_); have hn1 := od.neT r10 (by decide); have hn2 := oA.neT r10 (by decide); have hn3 := oB.neT r10 (by decide); have ho := r10; clear r10 B hX; intro wn r10 ze zf hsx zg B hX; replace od := od.chgB ze hn1; replace oA := oA.chgB ze hn2; replace oB := oB.chgB ze hn3; replace rs1 := rs1.chg ho (by simp [stC]) ze; clear hn1 hn2 hn3 ho; replace lm := lm.of_eq (ze.block _ lm.lt (by omega)); replace r8 := r8.of_eq (ze.block _ r8.lt (by omega)); replace r9 := r9.of_eq (ze.block _ r9.lt (by omega)); replace r11 := r11.of_eq (ze.block _ r11.lt (by omega)); refine hK _ _ ⟨fun _ => ⟨_, zw hX⟩, ?_⟩; clear hK K; try simp only [zR]
     simp only [zo]; refine zy 17 rfl (by kernel_rfl) rfl (fun K hK => ?_); try simp only [zR]
     refine zM (t := 30) _ _ _ _ rfl rfl rfl r11 (by kernel_rfl) rfl (by simp [stC, Value.oneCell']) (stX B hX (by omega) (by omega) ?_); have hn1 := od.neT r11 (by decide); have hn2 := oA.neT r11 (by decide); have hn3 := oB.neT r11 (by decide); have ho := r11; clear r11 B hX; intro wn r11 ze zf hsx zg B hX; replace od := od.chgB ze hn1; replace oA := oA.chgB ze hn2; replace oB := oB.chgB ze hn3; replace rs1 := rs1.chg ho (by simp [stC]) ze; clear hn1 hn2 hn3 ho; replace lm := lm.of_eq (ze.block _ lm.lt (by omega)); replace r8 := r8.of_eq (ze.block _ r8.lt (by omega)); replace r9 := r9.of_eq (ze.block _ r9.lt (by omega)); replace r10 := r10.of_eq (ze.block _ r10.lt (by omega)); refine hK _ _ ⟨fun _ => ⟨_, zw hX⟩, ?_⟩; clear hK K; try simp only [zR]
     simp only [zo]; refine zy 18 rfl (by kernel_rfl) rfl (fun K hK => ?_); try simp only [zR]
     refine BigFrame.wp_assign _ rfl ?_; refine hK _ _ ⟨fun _ => ⟨_, zw hX⟩, ?_⟩; clear hK K; try simp only [zR]
     simp only [zo]; refine zV (by kernel_rfl) (by kernel_rfl) ?_; simp only [List.drop_succ_cons, List.drop_zero]; refine wpList_nil ?_; refine zN.normal ?_; go_wp2_with fail
     go_meet; exact ⟨b_r10, b_r11, aa, na, ca, ab, nb, cb, rfl, rfl, rfl, oA.rs, oB.rs, r10, r11, B, lm, rs1, r8, od.rs, r9⟩
   ·skip
    try simp only [zR]
    refine zD (t := 30) _ (zJ _ _ rfl) (alX B hX ?_); clear B hX; intro b_r11 wn zb r11 za zf hsx zk B hX; replace lm := lm.below za; replace rs1 := rs1.below za; replace r8 := r8.bl za; replace od := od.below za; replace r9 := r9.bl za; try replace oA := oA.below za
    try replace oB := oB.below za
    try replace r10 := r10.bl za
    refine hK _ _ ⟨fun _ => ⟨_, zw hX⟩, ?_⟩; clear hK K; try simp only [zR]
    simp only [zo]; refine qN 5 14 rfl rfl (by kernel_rfl) rfl rfl (fun K hK => ?_) (fun K hK => ?_)
    ·skip
     try simp only [zR]
     refine yw rfl Tryz.underlying26 rfl ?_; refine hK _ _ ⟨fun _ => ⟨_, zw hX⟩, ?_⟩; clear hK K; try simp only [zR]
     simp only [zo]; refine zx 6 rfl (by kernel_rfl) ⟨_, zw hX⟩ ?_; intro K hK; try simp only [zR]
     (first | (go_big_quiet_op; go_big_quiet_on))
     simp only [zo]; refine zx 7 rfl (by kernel_rfl) ⟨_, zw hX⟩ ?_; intro K hK; try simp only [zR]
     (first | (go_big_quiet_op; go_big_quiet_on))
     simp only [zo]; refine zx 8 rfl (by kernel_rfl) ⟨_, zw hX⟩ ?_; intro K hK; try simp only [zR]
     (first | (go_big_quiet_op; go_big_quiet_on))
     simp only [zo]; refine qN 9 14 rfl rfl (by kernel_rfl) rfl rfl (fun K hK => ?_) (fun K hK => ?_)
     ·skip
      try simp only [zR]
      go_simp
      go_at_call 26
      refine (j9 _ S (1 + r) _ _ od.rs MV.out (by omega) (by rw [HN.out]; omega) (by go_num)).mono ?_
      rintro e wn ⟨aa, na, ca, ab, nb, cb, rfl, oA, oB, za⟩; have zf := B.size; have zg := za.size; have hsx := hX.size; replace B := B.trans (za.mono B.size); replace hX := hX.trans (za.mono hX.size); replace lm := lm.below za; replace rs1 := rs1.below za; replace r8 := r8.bl za; replace od := od.below za; replace r9 := r9.bl za; try replace r10 := r10.bl za
      try replace r11 := r11.bl za
      refine hK _ _ ⟨fun _ => ⟨_, zw hX⟩, ?_⟩; clear hK K; try simp only [zR]
      simp only [zo]; refine zx 10 rfl (by kernel_rfl) ⟨_, zw hX⟩ ?_; intro K hK; try simp only [zR]
      (first | (go_big_quiet_op; go_big_quiet_on))
      simp only [zo]; refine zx 11 rfl (by kernel_rfl) ⟨_, zw hX⟩ ?_; intro K hK; try simp only [zR]
      (first | (go_big_quiet_op; go_big_quiet_on))
      simp only [zo]; refine zx 12 rfl (by kernel_rfl) ⟨_, zw hX⟩ ?_; intro K hK; try simp only [zR]
      (first | (go_big_quiet_op; go_big_quiet_on))
      simp only [zo]; refine zx 13 rfl (by kernel_rfl) ⟨_, zw hX⟩ ?_; intro K hK; try simp only [zR]
      (first | (go_big_quiet_op; go_big_quiet_on))
      simp only [zo]; refine zy 14 rfl (by kernel_rfl) rfl (fun K hK => ?_); try simp only [zR]
      refine zD (t := 30) _ (zJ _ _ rfl) (alX B hX ?_); clear B hX; intro b_r10 wn zb r10 za zf hsx zk B hX; replace lm := lm.below za; replace rs1 := rs1.below za; replace r8 := r8.bl za; replace od := od.below za; replace r9 := r9.bl za; try replace oA := oA.below za
      try replace oB := oB.below za
      try replace r11 := r11.bl za
      refine hK _ _ ⟨fun _ => ⟨_, zw hX⟩, ?_⟩; clear hK K; try simp only [zR]
      simp only [zo]; refine zy 16 rfl (by kernel_rfl) rfl (fun K hK => ?_); try simp only [zR]
      refine zM (t := 30) _ _ _ _ rfl rfl rfl r10 (by kernel_rfl) rfl (by simp [stC, Value.oneCell']) (stX B hX (by omega) (by omega) ?_); have hn1 := od.neT r10 (by decide); have hn2 := oA.neT r10 (by decide); have hn3 := oB.neT r10 (by decide); have ho := r10; clear r10 B hX; intro wn r10 ze zf hsx zg B hX; replace od := od.chgB ze hn1; replace oA := oA.chgB ze hn2; replace oB := oB.chgB ze hn3; replace rs1 := rs1.chg ho (by simp [stC]) ze; clear hn1 hn2 hn3 ho; replace lm := lm.of_eq (ze.block _ lm.lt (by omega)); replace r8 := r8.of_eq (ze.block _ r8.lt (by omega)); replace r9 := r9.of_eq (ze.block _ r9.lt (by omega)); replace r11 := r11.of_eq (ze.block _ r11.lt (by omega)); refine hK _ _ ⟨fun _ => ⟨_, zw hX⟩, ?_⟩; clear hK K; try simp only [zR]
      simp only [zo]; refine zy 17 rfl (by kernel_rfl) rfl (fun K hK => ?_); try simp only [zR]
      refine zM (t := 30) _ _ _ _ rfl rfl rfl r11 (by kernel_rfl) rfl (by simp [stC, Value.oneCell']) (stX B hX (by omega) (by omega) ?_); have hn1 := od.neT r11 (by decide); have hn2 := oA.neT r11 (by decide); have hn3 := oB.neT r11 (by decide); have ho := r11; clear r11 B hX; intro wn r11 ze zf hsx zg B hX; replace od := od.chgB ze hn1; replace oA := oA.chgB ze hn2; replace oB := oB.chgB ze hn3; replace rs1 := rs1.chg ho (by simp [stC]) ze; clear hn1 hn2 hn3 ho; replace lm := lm.of_eq (ze.block _ lm.lt (by omega)); replace r8 := r8.of_eq (ze.block _ r8.lt (by omega)); replace r9 := r9.of_eq (ze.block _ r9.lt (by omega)); replace r10 := r10.of_eq (ze.block _ r10.lt (by omega)); refine hK _ _ ⟨fun _ => ⟨_, zw hX⟩, ?_⟩; clear hK K; try simp only [zR]
      simp only [zo]; refine zy 18 rfl (by kernel_rfl) rfl (fun K hK => ?_); try simp only [zR]
      refine BigFrame.wp_assign _ rfl ?_; refine hK _ _ ⟨fun _ => ⟨_, zw hX⟩, ?_⟩; clear hK K; try simp only [zR]
      simp only [zo]; refine zV (by kernel_rfl) (by kernel_rfl) ?_; simp only [List.drop_succ_cons, List.drop_zero]; refine wpList_nil ?_; refine zN.normal ?_; go_wp2_with fail
      go_meet; exact ⟨b_r10, b_r11, aa, na, ca, ab, nb, cb, rfl, rfl, rfl, oA.rs, oB.rs, r10, r11, B, lm, rs1, r8, od.rs, r9⟩
     ·skip
      try simp only [zR]
      refine zD (t := 30) _ (zJ _ _ rfl) (alX B hX ?_); clear B hX; intro b_r10 wn zb r10 za zf hsx zk B hX; replace lm := lm.below za; replace rs1 := rs1.below za; replace r8 := r8.bl za; replace od := od.below za; replace r9 := r9.bl za; try replace oA := oA.below za
      try replace oB := oB.below za
      try replace r11 := r11.bl za
      refine hK _ _ ⟨fun _ => ⟨_, zw hX⟩, ?_⟩; clear hK K; try simp only [zR]
      simp only [zo]; refine zy 9 rfl (by kernel_rfl) rfl (fun K hK => ?_); try simp only [zR]
      go_simp
      go_at_call 26
      refine (j9 _ S (1 + r) _ _ od.rs MV.out (by omega) (by rw [HN.out]; omega) (by go_num)).mono ?_
      rintro e wn ⟨aa, na, ca, ab, nb, cb, rfl, oA, oB, za⟩; have zf := B.size; have zg := za.size; have hsx := hX.size; replace B := B.trans (za.mono B.size); replace hX := hX.trans (za.mono hX.size); replace lm := lm.below za; replace rs1 := rs1.below za; replace r8 := r8.bl za; replace od := od.below za; replace r9 := r9.bl za; try replace r10 := r10.bl za
      try replace r11 := r11.bl za
      refine hK _ _ ⟨fun _ => ⟨_, zw hX⟩, ?_⟩; clear hK K; try simp only [zR]
      simp only [zo]; refine zx 10 rfl (by kernel_rfl) ⟨_, zw hX⟩ ?_; intro K hK; try simp only [zR]
      (first | (go_big_quiet_op; go_big_quiet_on))
      simp only [zo]; refine zx 11 rfl (by kernel_rfl) ⟨_, zw hX⟩ ?_; intro K hK; try simp only [zR]
      (first | (go_big_quiet_op; go_big_quiet_on))
      simp only [zo]; refine zx 12 rfl (by kernel_rfl) ⟨_, zw hX⟩ ?_; intro K hK; try simp only [zR]
      (first | (go_big_quiet_op; go_big_quiet_on))
      simp only [zo]; refine zx 13 rfl (by kernel_rfl) ⟨_, zw hX⟩ ?_; intro K hK; try simp only [zR]
      (first | (go_big_quiet_op; go_big_quiet_on))
      simp only [zo]; refine zy 16 rfl (by kernel_rfl) rfl (fun K hK => ?_); try simp only [zR]
      refine zM (t := 30) _ _ _ _ rfl rfl rfl r10 (by kernel_rfl) rfl (by simp [stC, Value.oneCell']) (stX B hX (by omega) (by omega) ?_); have hn1 := od.neT r10 (by decide); have hn2 := oA.neT r10 (by decide); have hn3 := oB.neT r10 (by decide); have ho := r10; clear r10 B hX; intro wn r10 ze zf hsx zg B hX; replace od := od.chgB ze hn1; replace oA := oA.chgB ze hn2; replace oB := oB.chgB ze hn3; replace rs1 := rs1.chg ho (by simp [stC]) ze; clear hn1 hn2 hn3 ho; replace lm := lm.of_eq (ze.block _ lm.lt (by omega)); replace r8 := r8.of_eq (ze.block _ r8.lt (by omega)); replace r9 := r9.of_eq (ze.block _ r9.lt (by omega)); replace r11 := r11.of_eq (ze.block _ r11.lt (by omega)); refine hK _ _ ⟨fun _ => ⟨_, zw hX⟩, ?_⟩; clear hK K; try simp only [zR]
      simp only [zo]; refine zy 17 rfl (by kernel_rfl) rfl (fun K hK => ?_); try simp only [zR]
      refine zM (t := 30) _ _ _ _ rfl rfl rfl r11 (by kernel_rfl) rfl (by simp [stC, Value.oneCell']) (stX B hX (by omega) (by omega) ?_); have hn1 := od.neT r11 (by decide); have hn2 := oA.neT r11 (by decide); have hn3 := oB.neT r11 (by decide); have ho := r11; clear r11 B hX; intro wn r11 ze zf hsx zg B hX; replace od := od.chgB ze hn1; replace oA := oA.chgB ze hn2; replace oB := oB.chgB ze hn3; replace rs1 := rs1.chg ho (by simp [stC]) ze; clear hn1 hn2 hn3 ho; replace lm := lm.of_eq (ze.block _ lm.lt (by omega)); replace r8 := r8.of_eq (ze.block _ r8.lt (by omega)); replace r9 := r9.of_eq (ze.block _ r9.lt (by omega)); replace r10 := r10.of_eq (ze.block _ r10.lt (by omega)); refine hK _ _ ⟨fun _ => ⟨_, zw hX⟩, ?_⟩; clear hK K; try simp only [zR]
      simp only [zo]; refine zy 18 rfl (by kernel_rfl) rfl (fun K hK => ?_); try simp only [zR]
      refine BigFrame.wp_assign _ rfl ?_; refine hK _ _ ⟨fun _ => ⟨_, zw hX⟩, ?_⟩; clear hK K; try simp only [zR]
      simp only [zo]; refine zV (by kernel_rfl) (by kernel_rfl) ?_; simp only [List.drop_succ_cons, List.drop_zero]; refine wpList_nil ?_; refine zN.normal ?_; go_wp2_with fail
      go_meet; exact ⟨b_r10, b_r11, aa, na, ca, ab, nb, cb, rfl, rfl, rfl, oA.rs, oB.rs, r10, r11, B, lm, rs1, r8, od.rs, r9⟩
    ·skip
     try simp only [zR]
     refine zD (t := 30) _ (zJ _ _ rfl) (alX B hX ?_); clear B hX; intro b_r10 wn zb r10 za zf hsx zk B hX; replace lm := lm.below za; replace rs1 := rs1.below za; replace r8 := r8.bl za; replace od := od.below za; replace r9 := r9.bl za; try replace oA := oA.below za
     try replace oB := oB.below za
     try replace r11 := r11.bl za
     refine hK _ _ ⟨fun _ => ⟨_, zw hX⟩, ?_⟩; clear hK K; try simp only [zR]
     simp only [zo]; refine zy 5 rfl (by kernel_rfl) rfl (fun K hK => ?_); try simp only [zR]
     refine yw rfl Tryz.underlying26 rfl ?_; refine hK _ _ ⟨fun _ => ⟨_, zw hX⟩, ?_⟩; clear hK K; try simp only [zR]
     simp only [zo]; refine zx 6 rfl (by kernel_rfl) ⟨_, zw hX⟩ ?_; intro K hK; try simp only [zR]
     (first | (go_big_quiet_op; go_big_quiet_on))
     simp only [zo]; refine zx 7 rfl (by kernel_rfl) ⟨_, zw hX⟩ ?_; intro K hK; try simp only [zR]
     (first | (go_big_quiet_op; go_big_quiet_on))
     simp only [zo]; refine zx 8 rfl (by kernel_rfl) ⟨_, zw hX⟩ ?_; intro K hK; try simp only [zR]
     (first | (go_big_quiet_op; go_big_quiet_on))
     simp only [zo]; refine zy 9 rfl (by kernel_rfl) rfl (fun K hK => ?_); try simp only [zR]
     go_simp
     go_at_call 26
     refine (j9 _ S (1 + r) _ _ od.rs MV.out (by omega) (by rw [HN.out]; omega) (by go_num)).mono ?_
     rintro e wn ⟨aa, na, ca, ab, nb, cb, rfl, oA, oB, za⟩; have zf := B.size; have zg := za.size; have hsx := hX.size; replace B := B.trans (za.mono B.size); replace hX := hX.trans (za.mono hX.size); replace lm := lm.below za; replace rs1 := rs1.below za; replace r8 := r8.bl za; replace od := od.below za; replace r9 := r9.bl za; try replace r10 := r10.bl za
     try replace r11 := r11.bl za
     refine hK _ _ ⟨fun _ => ⟨_, zw hX⟩, ?_⟩; clear hK K; try simp only [zR]
     simp only [zo]; refine zx 10 rfl (by kernel_rfl) ⟨_, zw hX⟩ ?_; intro K hK; try simp only [zR]
     (first | (go_big_quiet_op; go_big_quiet_on))
     simp only [zo]; refine zx 11 rfl (by kernel_rfl) ⟨_, zw hX⟩ ?_; intro K hK; try simp only [zR]
     (first | (go_big_quiet_op; go_big_quiet_on))
     simp only [zo]; refine zx 12 rfl (by kernel_rfl) ⟨_, zw hX⟩ ?_; intro K hK; try simp only [zR]
     (first | (go_big_quiet_op; go_big_quiet_on))
     simp only [zo]; refine zx 13 rfl (by kernel_rfl) ⟨_, zw hX⟩ ?_; intro K hK; try simp only [zR]
     (first | (go_big_quiet_op; go_big_quiet_on))
     simp only [zo]; refine zy 16 rfl (by kernel_rfl) rfl (fun K hK => ?_); try simp only [zR]
     refine zM (t := 30) _ _ _ _ rfl rfl rfl r10 (by kernel_rfl) rfl (by simp [stC, Value.oneCell']) (stX B hX (by omega) (by omega) ?_); have hn1 := od.neT r10 (by decide); have hn2 := oA.neT r10 (by decide); have hn3 := oB.neT r10 (by decide); have ho := r10; clear r10 B hX; intro wn r10 ze zf hsx zg B hX; replace od := od.chgB ze hn1; replace oA := oA.chgB ze hn2; replace oB := oB.chgB ze hn3; replace rs1 := rs1.chg ho (by simp [stC]) ze; clear hn1 hn2 hn3 ho; replace lm := lm.of_eq (ze.block _ lm.lt (by omega)); replace r8 := r8.of_eq (ze.block _ r8.lt (by omega)); replace r9 := r9.of_eq (ze.block _ r9.lt (by omega)); replace r11 := r11.of_eq (ze.block _ r11.lt (by omega)); refine hK _ _ ⟨fun _ => ⟨_, zw hX⟩, ?_⟩; clear hK K; try simp only [zR]
     simp only [zo]; refine zy 17 rfl (by kernel_rfl) rfl (fun K hK => ?_); try simp only [zR]
     refine zM (t := 30) _ _ _ _ rfl rfl rfl r11 (by kernel_rfl) rfl (by simp [stC, Value.oneCell']) (stX B hX (by omega) (by omega) ?_); have hn1 := od.neT r11 (by decide); have hn2 := oA.neT r11 (by decide); have hn3 := oB.neT r11 (by decide); have ho := r11; clear r11 B hX; intro wn r11 ze zf hsx zg B hX; replace od := od.chgB ze hn1; replace oA := oA.chgB ze hn2; replace oB := oB.chgB ze hn3; replace rs1 := rs1.chg ho (by simp [stC]) ze; clear hn1 hn2 hn3 ho; replace lm := lm.of_eq (ze.block _ lm.lt (by omega)); replace r8 := r8.of_eq (ze.block _ r8.lt (by omega)); replace r9 := r9.of_eq (ze.block _ r9.lt (by omega)); replace r10 := r10.of_eq (ze.block _ r10.lt (by omega)); refine hK _ _ ⟨fun _ => ⟨_, zw hX⟩, ?_⟩; clear hK K; try simp only [zR]
     simp only [zo]; refine zy 18 rfl (by kernel_rfl) rfl (fun K hK => ?_); try simp only [zR]
     refine BigFrame.wp_assign _ rfl ?_; refine hK _ _ ⟨fun _ => ⟨_, zw hX⟩, ?_⟩; clear hK K; try simp only [zR]
     simp only [zo]; refine zV (by kernel_rfl) (by kernel_rfl) ?_; simp only [List.drop_succ_cons, List.drop_zero]; refine wpList_nil ?_; refine zN.normal ?_; go_wp2_with fail
     go_meet; exact ⟨b_r10, b_r11, aa, na, ca, ab, nb, cb, rfl, rfl, rfl, oA.rs, oB.rs, r10, r11, B, lm, rs1, r8, od.rs, r9⟩
  case rest =>
   clear B lm rs1 r8 od r9 r9B; obtain ⟨b_r10, b_r11, aa, na, ca, ab, nb, cb, rfl, rfl, rfl, nA, nB, r10, r11, B, lm, rs1, r8, rs, r9⟩ := hcut; go_upto_region 7 with fail
   refine wp_region_lit ?_; try simp only [zR]
   refine chk 2 ?_
   refine clF (enters_of Tryz.func30 (by kernel_rfl) rfl) (c := ue _ _ (spA S (1 + r)) (xi L) K1 0 _ lm rs1 tk.out n1.out nA SA.out OKA.out HK1.out) (h := ?_); rintro e wn ⟨a3, c3, rfl, rs2, za⟩; have zf := B.size; have zg := za.size; replace B := B.trans (za.mono B.size)
   (try replace lm := lm.below za)
   (try replace rs1 := rs1.below za)
   (try replace r8 := r8.below za)
   (try replace rs := rs.below za)
   (try replace r9 := r9.below za)
   (try replace nA := nA.below za)
   (try replace nB := nB.below za)
   (try replace r10 := r10.below za)
   (try replace r11 := r11.below za)
   refine ⟨_, rfl, ?_⟩; simp only [zo]; refine chk 3 ?_; obtain ⟨wK, hK⟩ : ∃ z, z = wn := ⟨_, rfl⟩; subst hK; have BG := B; have hwsK := BG.size; have B := Below.refl wK.heap.size wK; have H_lm := Lib.hid lm; have H_rs1 := Lib.hid rs1; have H_r8 := Lib.hid r8; have H_rs := Lib.hid rs; have H_r9 := Lib.hid r9; have H_nA := Lib.hid nA; have H_nB := Lib.hid nB; have H_r10 := Lib.hid r10; have H_r11 := Lib.hid r11; have H_rs2 := Lib.hid rs2; try simp only [zR]
   (refine zr (t := 64) rfl _ (ql _ _ rfl) (alK B ?_); clear B; intro b_r13 wn zb zd r13 za zf zk B; simp only [zo])
   (refine zq (t := 64) rfl _ _ rfl _ rfl _ rfl r13 (by kernel_rfl) rfl (by simp [Value.oneCell']) (stK B (by omega) ?_); clear r13 B; intro wn r13 ze zf zg B; simp only [zo])
   refine chk 1 ?_; refine wpList_nil ?_; clear lm; clear rs1; clear r8; clear rs; clear r9; clear nA; clear nB; clear r10; clear r11; clear rs2; have lm := by first | exact H_lm.out.below B | exact H_lm.out.of_eq (B.block _ H_lm.out.lt)
   have rs1 := by first | exact H_rs1.out.below B | exact H_rs1.out.of_eq (B.block _ H_rs1.out.lt)
   have r8 := by first | exact H_r8.out.below B | exact H_r8.out.of_eq (B.block _ H_r8.out.lt)
   have rs := by first | exact H_rs.out.below B | exact H_rs.out.of_eq (B.block _ H_rs.out.lt)
   have r9 := by first | exact H_r9.out.below B | exact H_r9.out.of_eq (B.block _ H_r9.out.lt)
   have nA := by first | exact H_nA.out.below B | exact H_nA.out.of_eq (B.block _ H_nA.out.lt)
   have nB := by first | exact H_nB.out.below B | exact H_nB.out.of_eq (B.block _ H_nB.out.lt)
   have r10 := by first | exact H_r10.out.below B | exact H_r10.out.of_eq (B.block _ H_r10.out.lt)
   have r11 := by first | exact H_r11.out.below B | exact H_r11.out.of_eq (B.block _ H_r11.out.lt)
   have rs2 := by first | exact H_rs2.out.below B | exact H_rs2.out.of_eq (B.block _ H_rs2.out.lt)
   clear H_lm; clear H_rs1; clear H_r8; clear H_rs; clear H_r9; clear H_nA; clear H_nB; clear H_r10; clear H_r11; clear H_rs2; have B0 := BG.trans (B.mono hwsK); clear B BG hwsK; have B := B0; clear B0; clear nA r10; go_upto_region 8 with fail
   refine wp_region_lit ?_; try simp only [zR]
   refine chk 2 ?_
   refine clF (enters_of Tryz.func30 (by kernel_rfl) rfl) (c := ue _ _ (spB S (1 + r)) K1 K3 0 _ lm rs2 tK1.out nK1.out nB SB.out OKB.out HK2.out) (h := ?_); rintro e wn ⟨a4, c4, rfl, rs3, za⟩; have zf := B.size; have zg := za.size; replace B := B.trans (za.mono B.size)
   (try replace lm := lm.below za)
   (try replace rs1 := rs1.below za)
   (try replace r8 := r8.below za)
   (try replace rs := rs.below za)
   (try replace r9 := r9.below za)
   (try replace nB := nB.below za)
   (try replace r11 := r11.below za)
   (try replace rs2 := rs2.below za)
   (try replace r13 := r13.below za)
   refine ⟨_, rfl, ?_⟩; simp only [zo]; refine chk 3 ?_; obtain ⟨wK, hK⟩ : ∃ z, z = wn := ⟨_, rfl⟩; subst hK; have BG := B; have hwsK := BG.size; have B := Below.refl wK.heap.size wK; have H_lm := Lib.hid lm; have H_rs1 := Lib.hid rs1; have H_r8 := Lib.hid r8; have H_rs := Lib.hid rs; have H_r9 := Lib.hid r9; have H_nB := Lib.hid nB; have H_r11 := Lib.hid r11; have H_rs2 := Lib.hid rs2; have H_r13 := Lib.hid r13; have H_rs3 := Lib.hid rs3; try simp only [zR]
   (refine zr (t := 64) rfl _ (ql _ _ rfl) (alK B ?_); clear B; intro b_r15 wn zb zd r15 za zf zk B; simp only [zo])
   (refine zq (t := 64) rfl _ _ rfl _ rfl _ rfl r15 (by kernel_rfl) rfl (by simp [Value.oneCell']) (stK B (by omega) ?_); clear r15 B; intro wn r15 ze zf zg B; simp only [zo])
   refine chk 1 ?_; refine wpList_nil ?_; clear lm; clear rs1; clear r8; clear rs; clear r9; clear nB; clear r11; clear rs2; clear r13; clear rs3; have lm := by first | exact H_lm.out.below B | exact H_lm.out.of_eq (B.block _ H_lm.out.lt)
   have rs1 := by first | exact H_rs1.out.below B | exact H_rs1.out.of_eq (B.block _ H_rs1.out.lt)
   have r8 := by first | exact H_r8.out.below B | exact H_r8.out.of_eq (B.block _ H_r8.out.lt)
   have rs := by first | exact H_rs.out.below B | exact H_rs.out.of_eq (B.block _ H_rs.out.lt)
   have r9 := by first | exact H_r9.out.below B | exact H_r9.out.of_eq (B.block _ H_r9.out.lt)
   have nB := by first | exact H_nB.out.below B | exact H_nB.out.of_eq (B.block _ H_nB.out.lt)
   have r11 := by first | exact H_r11.out.below B | exact H_r11.out.of_eq (B.block _ H_r11.out.lt)
   have rs2 := by first | exact H_rs2.out.below B | exact H_rs2.out.of_eq (B.block _ H_rs2.out.lt)
   have r13 := by first | exact H_r13.out.below B | exact H_r13.out.of_eq (B.block _ H_r13.out.lt)
   have rs3 := by first | exact H_rs3.out.below B | exact H_rs3.out.of_eq (B.block _ H_rs3.out.lt)
   clear H_lm; clear H_rs1; clear H_r8; clear H_rs; clear H_r9; clear H_nB; clear H_r11; clear H_rs2; clear H_r13; clear H_rs3; have B0 := BG.trans (B.mono hwsK); clear B BG hwsK; have B := B0; clear B0; clear nB r11 rs2 r13; go_upto_region 9 with fail
   refine wp_region_lit ?_; try simp only [zR]
   refine chk 2 ?_
   refine clF (enters_of Tryz.func30 (by kernel_rfl) rfl) (c := ue _ _ S (xi L) K3 0 _ lm rs1 tk.out n1.out rs SN.out OK1.out HK3.out) (h := ?_); rintro e wn ⟨a5, c5, rfl, rs4, za⟩; have zf := B.size; have zg := za.size; replace B := B.trans (za.mono B.size)
   (try replace lm := lm.below za)
   (try replace rs1 := rs1.below za)
   (try replace r8 := r8.below za)
   (try replace rs := rs.below za)
   (try replace r9 := r9.below za)
   (try replace rs3 := rs3.below za)
   (try replace r15 := r15.below za)
   refine ⟨_, rfl, ?_⟩; simp only [zo]; refine chk 3 ?_; obtain ⟨wK, hK⟩ : ∃ z, z = wn := ⟨_, rfl⟩; subst hK; have BG := B; have hwsK := BG.size; have B := Below.refl wK.heap.size wK; have H_lm := Lib.hid lm; have H_rs1 := Lib.hid rs1; have H_r8 := Lib.hid r8; have H_rs := Lib.hid rs; have H_r9 := Lib.hid r9; have H_rs3 := Lib.hid rs3; have H_r15 := Lib.hid r15; have H_rs4 := Lib.hid rs4; try simp only [zR]
   (refine zr (t := 64) rfl _ (ql _ _ rfl) (alK B ?_); clear B; intro b_r17 wn zb zd r17 za zf zk B; simp only [zo])
   (refine zq (t := 64) rfl _ _ rfl _ rfl _ rfl r17 (by kernel_rfl) rfl (by simp [Value.oneCell']) (stK B (by omega) ?_); clear r17 B; intro wn r17 ze zf zg B; simp only [zo])
   refine chk 1 ?_; refine wpList_nil ?_; clear lm; clear rs1; clear r8; clear rs; clear r9; clear rs3; clear r15; clear rs4; have lm := by first | exact H_lm.out.below B | exact H_lm.out.of_eq (B.block _ H_lm.out.lt)
   have rs1 := by first | exact H_rs1.out.below B | exact H_rs1.out.of_eq (B.block _ H_rs1.out.lt)
   have r8 := by first | exact H_r8.out.below B | exact H_r8.out.of_eq (B.block _ H_r8.out.lt)
   have rs := by first | exact H_rs.out.below B | exact H_rs.out.of_eq (B.block _ H_rs.out.lt)
   have r9 := by first | exact H_r9.out.below B | exact H_r9.out.of_eq (B.block _ H_r9.out.lt)
   have rs3 := by first | exact H_rs3.out.below B | exact H_rs3.out.of_eq (B.block _ H_rs3.out.lt)
   have r15 := by first | exact H_r15.out.below B | exact H_r15.out.of_eq (B.block _ H_r15.out.lt)
   have rs4 := by first | exact H_rs4.out.below B | exact H_rs4.out.of_eq (B.block _ H_rs4.out.lt)
   clear H_lm; clear H_rs1; clear H_r8; clear H_rs; clear H_r9; clear H_rs3; clear H_r15; clear H_rs4; have B0 := BG.trans (B.mono hwsK); clear B BG hwsK; have B := B0; clear B0; go_upto_region 10 with fail
   refine wp_region_lit ?_; try simp only [zR]
   refine chk 20 ?_
   refine clF (enters_of Tryz.func43 (by kernel_rfl) rfl) (c := zay _ _ K3 K3 true _ rs3 rs4 tK3.out tK3.out nK3.out nK3.out EQ.out) (h := ?_); rintro e wn ⟨rfl, za⟩; have zf := B.size; have zg := za.size; replace B := B.trans (za.mono B.size); refine ⟨_, rfl, ?_⟩; simp only [zo]; refine chk 2 ?_; refine wpList_nil ?_; go_wp2; go_ret; exact ⟨rfl, B⟩
namespace strokeHalves
open Go.ChangeShapes Go.WideShapes Go.ChangeAt Go.RowKit
open Go.ChangeMaps (open_string shut_string)
set_option maxRecDepth 100000 in
theorem lifted (os : Os) (started : os.Started) (H : Type) (enc : TypeId × Value → H) :
  ReturnsInHanded {} Tryz.checked os 11 .any (fun w args => (Rows.strokeHalvesSpec.pre enc Tryz.prog Tryz.f11 [] false w args ∧ laidMetH Tryz.prog X5 w) ∧ sizedMet enc Tryz.prog Tryz.f11 (OpenSpec.ofChange Rows.strokeHalvesSpec) false w args) (Rows.strokeHalvesSpec.post enc Tryz.prog Tryz.f11 false true false false) := by
 refine returnsInHanded_of_change_and (C := Tryz.checked) (X := fun w _ => laidMetH Tryz.prog X5 w) (fun _ _ _ hh h => h.of_heap hh) own started (by kernel_rfl) Tryz.func11
  (ChangeSpec.witness_shaped (enc := enc) (C := Tryz.checked) (os := os) (X := fun w _ => laidMetH Tryz.prog X5 w) false (World.doorLaid Tryz.prog 400 os) #[.slice none 0 0, .slice none 0 0, .int .i64 0] 8 rfl (World.shaped_of_RefB (by kernel_rfl) (by kernel_rfl)) (by kernel_rfl) (by kernel_rfl) (by kernel_rfl) (zbc os _)) ?_
 intro W base args ds gs before hval0 hW _ hsz0 hL _
 have hlm := X7 hL
 have hval : ∀ (j : Nat) t v, Tryz.f11.params[j]? = some t → args[j]? = some v → Value.okWide Tryz.prog W .any base t v := hval0
 have hW' := hW
 obtain ⟨p, q, hA0, hV, rfl, hfz, hnd⟩ := hW
 have hA : DataW.TrodAll enc Tryz.prog W 0 (fun _ => true) true Tryz.f11.params.toList args.toList ds p := hA0
 rw [Tryz.params11] at hA hval hsz0
 obtain ⟨v0, vs0, d0, ds0, p0, q0, hargs, rfl, rfl, h0, r0⟩ := trodAll_cons hA
 obtain ⟨v1, vs1, d1, ds1, p1, q1, rfl, rfl, rfl, h1, r1⟩ := trodAll_cons r0
 obtain ⟨v2, vs2, d2, ds2, p2, q2, rfl, rfl, rfl, h2, r2⟩ := trodAll_cons r1
 obtain ⟨rfl, rfl, rfl⟩ := trodAll_nil r2
 obtain rfl : args = #[v0, v1, v2] := by cases args; simp_all
 obtain ⟨rfl, rfl⟩ := trodVars_none hV
 have hwt0 : ∀ n ∈ DataW.weights Tryz.prog 22 d0, n ≤ reachBytes := fun n hn => by simpa using List.all_eq_true.1 hsz0 n (DataW.weights_mem_each (j := 0) rfl rfl n hn)
 have hwt1 : ∀ n ∈ DataW.weights Tryz.prog 22 d1, n ≤ reachBytes := fun n hn => by simpa using List.all_eq_true.1 hsz0 n (DataW.weights_mem_each (j := 1) rfl rfl n hn)
 have k0 := h0
 have lt0 : ∀ x ∈ p0, x.block < W.heap.size := by obtain ⟨m, hm⟩ := k0; exact DataW.trod_lt m _ _ _ hm
 have k1 := h1
 have lt1 : ∀ x ∈ p1, x.block < W.heap.size := by obtain ⟨m, hm⟩ := k1; exact DataW.trod_lt m _ _ _ hm
 have k2 := h2
 have lt2 : ∀ x ∈ p2, x.block < W.heap.size := by obtain ⟨m, hm⟩ := k2; exact DataW.trod_lt m _ _ _ hm
 obtain ⟨L0, hL0, hLn0⟩ := Qr (hval 0 22 v0 rfl rfl) h0 hwt0
 obtain ⟨L1, hL1, hLn1⟩ := Qr (hval 1 22 v1 rfl rfl) h1 hwt1
 obtain ⟨a2, rfl, rfl, rfl, w2⟩ := open_int Tryz.underlying3 (hval 2 3 v2 rfl rfl) h2
 clear hA0 hval0
 refine (uN v0 L0 v1 L1 a2   W hlm hL0 hLn0 hL1 hLn1).mono fun e W' ⟨he, bel⟩ => ?_
 subst he
 exact ⟨_, rfl, _, _, _, [], _, [], hW', trodAll_mk1 (shut_bool Tryz.underlying4 _), (trodAll_cons_mk (Below.trod JZ (by kernel_rfl) (of_decide_eq_true (by kernel_rfl)) k0 bel lt0) (trodAll_cons_mk (Below.trod JZ (by kernel_rfl) (of_decide_eq_true (by kernel_rfl)) k1 bel lt1) (trodAll_cons_mk (Below.trod JZ (by kernel_rfl) (of_decide_eq_true (by kernel_rfl)) k2 bel lt2) trodAll_mk0))), rfl, bel.frame _, fun h => by cases h⟩
theorem over : Rows.strokeHalvesRow.holds Tryz.pinned (OpenSpec.ofChange Rows.strokeHalvesSpec) :=
 OpenClaim.holds_of_wide 11 Tryz.f11 rfl rfl rfl rfl rfl rfl rfl ⟨rfl, rfl, rfl, rfl, rfl⟩ rfl rfl rfl rfl rfl (by kernel_rfl) Tryz.func11 (by kernel_rfl)
  (of_decide_eq_true (by kernel_rfl)) (by unfold Func.isWrapper; first | (rw [if_pos (by decide +kernel)]; kernel_rfl) | (rw [if_neg (by decide +kernel)]; exact ⟨rfl, rfl⟩))
  (fun os started H enc _ => lifted os started H enc)
/-- THE STATEMENT: StrokeHalves returns true for every input, and its arguments read as they did; what the listed variable holds is tied to the program's text. -/
theorem proved : Rows.StrokeHalvesCardSaid := by
 unfold Rows.StrokeHalvesCardSaid Rows.strokeHalvesCard
 exact Claim7.holds_tied_plain_at .later [] [.data] true _ false over (fun _ h => by cases h) (by kernel_rfl) (fun _ h => by cases h) strokeHalves_row_tie rfl ⟨rfl, rfl⟩ (by kernel_rfl) rfl
  (fun f fn hf hfn => by
   obtain rfl : f = 11 := Option.some.inj ((show Tryz.prog.funcNamed "gouache/gouachelaw14.StrokeHalves" = some 11 by kernel_rfl).symm.trans hf) |>.symm
   obtain rfl : fn = Tryz.f11 := (Option.some.inj (Tryz.func11.symm.trans hfn)).symm; exact ⟨by kernel_rfl, fun j t ht => by
    rw [Tryz.params11] at ht; have hm : t ∈ [22, 22, 3] := by simpa using Array.mem_of_getElem? ht
    have hall : ([22, 22, 3].all fun u => !Tryz.prog.wantsStandIn u) = true := by kernel_rfl
    exact (show Tryz.prog.wantsStandIn t = false by simpa using List.all_eq_true.1 hall t hm)⟩)
  (by kernel_rfl)
end strokeHalves
end Go.Proofs.YtepelndbbhdofaaGreatDoor
