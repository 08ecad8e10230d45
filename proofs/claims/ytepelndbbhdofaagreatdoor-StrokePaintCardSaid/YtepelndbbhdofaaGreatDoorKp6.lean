/- StrokePaint: for every generated raster, every made stroke with one field changed and strokes far from the origin, Paint agrees with the reference, and what it returns is valid: the law returns true for every input, and its arguments read as they did; what the listed variable holds is tied to the program's text. No other condition. -/
import Derived.Test.YtepelndbbhdofaaGreatDoorKp5
import Derived.SizedLaws
import Derived.ChangeSlices
import Derived.Test.YtepelndbbhdofaaGreatDoorTie
import Derived.Test.YtepelndbbhdofaaGreatDoorCards
import Derived.LaidMore
import Derived.Stop.Joined
import Derived.Stop.LaidErr
import Derived.Lib.LaidTab
import Derived.SevenTiedAt
import Derived.Lib.AppendZeros

namespace Go.Proofs.YtepelndbbhdofaaGreatDoor
open Go.RowKit Go.Shelf Pl Sha Go.Proofs.Tryz
set_option linter.unusedVariables false
set_option linter.unusedSimpArgs false
set_option maxRecDepth 20000
set_option maxHeartbeats 8000000
attribute [local go_sem] Oper.semAt_some
set_option linter.unusedVariables false
set_option linter.unusedSimpArgs false
set_option maxRecDepth 20000
section
variable {F : Fence} {n : Nat} {P : Program}
theorem Y0 {α : Type} {g : Operand} {ps : Array Tmp} {assign body : Code} {Q : Exit → Act → World → Prop} {a : Act} {w : World}
  (hro : F.round = none) (h1 : 1 ≤ n) {gf : Nat} {lb : Array Value} (hg : a.eval g = .func (.func gf) #[] lb) (hFg : F.fn gf) (eg : ∀ args w, (callFunc gf args).run P w = .ok (.enter gf args) w)
  {encs : α → Array Value} {Kp : World → World → Prop} {S Sp : List α → Prop} {N : Nat} {w0 : World} (hseq : Qp F (n - 1) P gf lb encs Kp S Sp N w0)
  (hKt : ∀ {A B C : World}, Kp A B → Kp B C → Kp A C) (hKb : ∀ (W : World) (l : Nat) (o o' : Obj), w.heap.size ≤ l → W.heap[l]? = some o → o.isCells = false → o.isWalk = false → Kp W (W.putObj l o'))
  (hKg : ∀ (A B : World), Below A.heap.size A B → Kp A B) (hb0 : Below w0.heap.size w0 w) (hps : ∀ x, (encs x).size = ps.size)
  (I Ix : List α → World → Prop) (hI0 : zcH w.heap.size I) (hX0 : zcH w.heap.size Ix) (h0 : I [] w) (As : α → Act → World → Prop) (hAs : ∀ x, OwnFrom w.heap.size (As x))
  (hassign : ∀ (l : Nat) (pre : List α) (x : α) (W : World) (K : Act → World → Prop), I pre W → w.heap.size + 2 < W.heap.size → (∀ a' W', Below W.heap.size W W' → As x a' W' → K a' W') →
   assign.wpIn (F.inRound l) (n - 1 - 1) P (Exit.then K (fun _ _ _ => False)) { tmps := (ps.zip (encs x)).foldl (fun t (p, v) => t.setIfInBounds p v) a.tmps, defers := [] } W)
  (hbody : ∀ (l : Nat) (pre : List α) (x : α) (W : World) (a' : Act), I pre W → As x a' W → pre.length < N → body.wpIn (F.inRound l) (n - 1 - 1) P (ownPostK Kp I (fun c xs W => c = .ret ∧ Ix xs W) (pre ++ [x]) W) a' W)
  (hdone : ∀ (D : Nat) (xs : List α) (W : World), w.heap.size ≤ D → S xs → I xs W → W.heap[D]? = some (.deferred (some [])) → Q .normal { a with defers := { target := .collected D, args := #[] } :: a.defers } W)
  (hstop : ∀ (D : Nat) (pre : List α) (W : World), w.heap.size ≤ D → Sp pre → Ix pre W → W.heap[D]? = some (.deferred (some [])) → Q .ret { a with defers := { target := .collected D, args := #[] } :: a.defers } W) :
  (Code.rangeFunc g ps assign body).wpIn F n P Q a w := by
 have hI : OwnFrom w.heap.size I := hI0.from
 have hX : OwnFrom w.heap.size Ix := hX0.from
 refine wpIn_rangeFunc fun fn hfn => ?_
 rw [hro]
 obtain ⟨rc, hrc⟩ : ∃ rc : LoopState → Option Code → Loop, rc = fun st pe => { state := st, pending := pe, fn, tmps := a.tmps, params := ps, assign, body, defers := w.heap.size } := ⟨_, rfl⟩
 obtain ⟨W1, hW1⟩ : ∃ W1, (w.alloc (.deferred (some []))).alloc (.loop (rc .ready none)) = W1 := ⟨_, rfl⟩
 have blkL : W1.heap[w.heap.size + 1]? = some (.loop (rc .ready none)) := by
  have := World.alloc_heap_new (w.alloc (.deferred (some []))) (.loop (rc .ready none)); rw [← hW1]
  rwa [World.size_alloc] at this
 have blkD : W1.heap[w.heap.size]? = some (.deferred (some [])) := by
  rw [← hW1]; exact (Below.heap_alloc _ _ _ (by simp)).trans (World.alloc_heap_new w _)
 have grown : Below w0.heap.size w0 W1 := by
  rw [← hW1]; exact hb0.trans ((((Below.refl _ w).alloc (Nat.le_refl _) _).alloc (by simp) _).mono hb0.size)
 have Xl : I [] W1 := by rw [← hW1]; exact hI.alloc _ (hI.alloc _ h0)
 refine ⟨w.heap.size + 1, [{ target := .collected w.heap.size, args := #[] }], W1, { target := .fn (.func gf) lb, args := #[.func (.yield (w.heap.size + 1)) #[] #[]] }, W1, gf,
  #[.func (.yield (w.heap.size + 1)) #[] #[]] ++ lb, W1, ?_, ?_, ?_, ?_, fun _ => h1, ?_⟩
 ·rw [← hW1, hrc]; exact run_enterLoop_outer _ _ _ _ _
 ·simp only [resolve, hg]
  simp [go_sem]
 ·intro f' hf'
  simp [Target.leads] at hf'
  subst hf'; exact hFg
 ·simp [invoke, go_sem, eg]
 have hszW1 : W1.heap.size = w.heap.size + 2 := by rw [← hW1]; simp
 have book : ∀ (A B : World) (row : Option Nat) (c : Loop), A.grownBy B row → (∀ r, row = some r → KX W1.heap.size A r) → A.heap[w.heap.size + 1]? = some (.loop c) → A.heap[w.heap.size]? = some (.deferred (some [])) → B.heap[w.heap.size + 1]? = some (.loop c) ∧ B.heap[w.heap.size]? = some (.deferred (some [])) := fun A B row c hg' hr h1 h2 =>
  ⟨(hg'.block _ (Array.getElem?_eq_some_iff.1 h1).1 (fun e => by have := (hr _ e.symm).1; omega)).trans h1, (hg'.block _ (Array.getElem?_eq_some_iff.1 h2).1 (fun e => by have := (hr _ e.symm).1; omega)).trans h2⟩
 have turn : ∀ (A : World) (row : Option Nat), (∀ r, row = some r → KX W1.heap.size A r) → ∀ r, row = some r → w.heap.size ≤ r ∧ ((∃ o : Obj, A.heap[r]? = some o ∧ o.isCells = false) ∨ KX (w.heap.size + 2) A r) := fun A row hr r e => ⟨by have := (hr r e).1; omega, .inr (by have := hr r e; rwa [hszW1] at this)⟩
 refine (hseq (w.heap.size + 1)
  (fun pre W => I pre W ∧ W.heap[w.heap.size + 1]? = some (.loop (rc .ready none)) ∧ W.heap[w.heap.size]? = some (.deferred (some [])))
  (fun pre W => Ix pre W ∧ W.heap[w.heap.size + 1]? = some (.loop (rc .done (some .ret))) ∧ W.heap[w.heap.size]? = some (.deferred (some []))) W1 grown
  (fun s A B row hs hg' hr => ⟨hI0 s A B row hs.1 hg' (turn A row hr), book A B row _ hg' hr hs.2.1 hs.2.2⟩)
  (fun s A B row hs hg' hr => ⟨hX0 s A B row hs.1 hg' (turn A row hr), book A B row _ hg' hr hs.2.1 hs.2.2⟩) ?_ ⟨Xl, blkL, blkD⟩).mono ?_
 ·rintro pre x W ⟨hi, hl, hk⟩ hlen hbig
  have hy := run_yield (P := P) (args := encs x) hl (by rw [hrc]; exact hps x)
  rw [hrc] at hy; refine ⟨fn, _, assign, body, hy, roundIn_of_wpIn hfn (hassign _ pre x W _ hi (by rw [hszW1] at hbig; exact hbig) fun a' V hb ha => ?_)⟩
  have hlV : V.heap[w.heap.size + 1]? = some (.loop (rc .ready none)) := (hb.block _ (Array.getElem?_eq_some_iff.1 hl).1).trans hl; have hkV : V.heap[w.heap.size]? = some (.deferred (some [])) := (hb.block _ (Array.getElem?_eq_some_iff.1 hk).1).trans hk; have hiV : I pre V := hI pre W V none hi (xZ hb) (fun r e => by cases e); refine ⟨_, run_beginRound hlV (by rw [hrc]), ?_⟩; obtain ⟨V1, hV1⟩ : ∃ V1, V.putObj (w.heap.size + 1) (.loop { rc .ready none with state := .busy }) = V1 := ⟨_, rfl⟩; have hl1 : V1.heap[w.heap.size + 1]? = some (.loop { rc .ready none with state := .busy }) := by rw [← hV1]; exact World.putObj_heap_same (Array.getElem?_eq_some_iff.1 hlV).1
  have hk1 : V1.heap[w.heap.size]? = some (.deferred (some [])) := by rw [← hV1]; exact (World.putObj_heap_other (by omega)).trans hkV
  have hKp1 : Kp W V1 := hKt (hKg _ _ hb) (by rw [← hV1]; exact hKb _ _ _ _ (by omega) hlV rfl rfl)
  have hi1 : I pre V1 := by rw [← hV1]; exact hI.putObj _ hiV (by omega) hlV rfl
  have ha1 : As x a' V1 := by rw [← hV1]; exact (hAs x).putObj _ ha (by omega) hlV rfl
  rw [hV1]; refine wpIn_mono (hbody _ pre x V1 a' hi1 ha1 hlen) ?_; rintro e a3 W3 hp; cases e with
  | normal =>
   obtain ⟨ko, kp, hi3⟩ := hp; have hl3 := ko.same _ _ hl1 rfl; have hk3 := ko.same _ _ hk1 rfl; have he := run_endRound (P := P) none hl3; rw [hrc] at he; refine ⟨_, _, he, .inl ⟨rfl, ⟨hI.putObj _ hi3 (by omega) hl3 rfl, ?_, (World.putObj_heap_other (by omega)).trans hk3⟩, hKt (hKt hKp1 kp) (hKb _ _ _ _ (by omega) hl3 rfl rfl)⟩⟩; rw [World.putObj_heap_same (Array.getElem?_eq_some_iff.1 hl3).1, hrc]
   rfl
  | ret =>
   obtain ⟨ko, _, hi3⟩ := hp; have hl3 := ko.same _ _ hl1 rfl; have hk3 := ko.same _ _ hk1 rfl; have he := run_endRound (P := P) (some .ret) hl3; rw [hrc] at he; refine ⟨_, _, he, .inr ⟨rfl, hX.putObj _ hi3 (by omega) hl3 rfl, ?_, (World.putObj_heap_other (by omega)).trans hk3⟩⟩; rw [World.putObj_heap_same (Array.getElem?_eq_some_iff.1 hl3).1, hrc]
   rfl
  | exit id => cases hp.2.1
  | goto t => cases hp.2.1
  | panic ch => exact hp.elim
  | outgrown => exact hp.elim
 ·rintro e W2 ⟨⟨v, rfl⟩, ⟨xs, hS, hi, hl, hk⟩ | ⟨pre, hSp, hi, hl, hk⟩⟩
  ·have he := run_endLoop (P := P) hl (by rw [hrc]; simp)
   rw [hrc] at he; exact ⟨none, _, he, hdone _ xs _ (Nat.le_refl _) hS (hI.putObj _ hi (by omega) hl rfl) ((World.putObj_heap_other (by omega)).trans hk)⟩
  ·have he := run_endLoop (P := P) hl (by rw [hrc]; simp)
   rw [hrc] at he; exact ⟨some .ret, _, he, wpIn_ret (hstop _ pre _ (Nat.le_refl _) hSp (hX.putObj _ hi (by omega) hl rfl) ((World.putObj_heap_other (by omega)).trans hk))⟩
end
theorem Qd (w : World) (o : Oper) (ho : o.op = .alloc 53) (ev : Operand → Value) : (execOp ev o).run Tryz.prog w = .ok (.value (.pointer (some ⟨w.heap.size, 0, none⟩))) (w.alloc (.cells #[.int .i64 0] 53)) := by
 obtain ⟨d, p, t, ps, af, gd⟩ := o
 simp only at ho
 subst ho
 kernel_rfl
theorem Y9 (w : World) (o : Oper) (ho : o.op = .alloc 114) (ev : Operand → Value) : (execOp ev o).run Tryz.prog w = .ok (.value (.pointer (some ⟨w.heap.size, 0, none⟩))) (w.alloc (.cells #[.nilFunc] 114)) := by
 obtain ⟨d, p, t, ps, af, gd⟩ := o
 simp only at ho
 subst ho
 kernel_rfl
theorem xI {w : World} {b : Nat} {z : Int} (h : zw 53 w b #[.int .i64 z]) : (Instr.loadAt 53 (.pointer (some ⟨b, 0, none⟩))).run Tryz.prog w = .ok (.int .i64 z) w := by
 have c0 := h.cell 0 rfl
 simp [go_sem, c0]
theorem VQ {w : World} {b : Nat} {f : Fn} {x y : Array Value} (h : zw 114 w b #[.func f x y]) : (Instr.loadAt 114 (.pointer (some ⟨b, 0, none⟩))).run Tryz.prog w = .ok (.func f x y) w := by
 have c0 := h.cell 0 rfl
 simp [go_sem, c0]
theorem uW {ops : Array Oper} {rest : List Oper} {o : Oper} {a : Act} {w : World} {Q : Exit → Act → World → Prop} (hg : o.guard = none) (x y : Operand) (ho : o.op = .store 53 x y) (b : Nat) (hx : a.eval x = .pointer (some ⟨b, 0, none⟩)) (z : Int) (hy : a.eval y = .int .i64 z) {v : Value} (ht : zw 53 w b #[v])
  (h : ∀ w', zw 53 w' b #[.int .i64 z] → qY b w w' → w'.heap.size = w.heap.size → wpList Tryz.prog ops Q rest (a.put o.dst undef) w') : wpList Tryz.prog ops Q (o :: rest) a w := by
 have c0 := ht.cell 0 rfl
 have f0 := ht.frozen 0
 refine qj hg x y ho (w.setCell ⟨b, 0, none⟩ (.int .i64 z)) ?_ (h _ ?_ ((qY.refl b w).setCell _) (by simp only [World.size_setCell]))
 ·rw [hx, hy]
  simp [go_sem, c0, f0]
 ·exact heap_setCell_same w b 0 #[v] _ _ ht
theorem Q3 {ops : Array Oper} {rest : List Oper} {o : Oper} {a : Act} {w : World} {Q : Exit → Act → World → Prop} (hg : o.guard = none) (x y : Operand) (ho : o.op = .store 114 x y) (b : Nat) (hx : a.eval x = .pointer (some ⟨b, 0, none⟩)) (f : Fn) (p q : Array Value) (hy : a.eval y = .func f p q) {v : Value} (ht : zw 114 w b #[v])
  (h : ∀ w', zw 114 w' b #[.func f p q] → qY b w w' → w'.heap.size = w.heap.size → wpList Tryz.prog ops Q rest (a.put o.dst undef) w') : wpList Tryz.prog ops Q (o :: rest) a w := by
 have c0 := ht.cell 0 rfl
 have f0 := ht.frozen 0
 refine qj hg x y ho (w.setCell ⟨b, 0, none⟩ (.func f p q)) ?_ (h _ ?_ ((qY.refl b w).setCell _) (by simp only [World.size_setCell]))
 ·rw [hx, hy]
  simp [go_sem, c0, f0]
 ·exact heap_setCell_same w b 0 #[v] _ _ ht
theorem zbX (s : jb) (k : Nat) (ls : List TA) {E : Int} (h : (xw s ((vw (xu s) k).map fun i => xA s i.val) ls).2 = E) (hE : E ≠ 0) : xw s (xS s) ls = ([], E) := by
 have e1 : xS s = ((vw (xu s) k).map fun i => xA s i.val) ++ ((List.finRange (xu s)).drop k).map fun i => xA s i.val := by
  rw [← JP, ← List.map_append]; unfold vw; rw [List.take_append_drop]
 have e2 : xw s (xS s) ls = xw s ((vw (xu s) k).map fun i => xA s i.val) ls := by
  rw [e1]; unfold xw at *; rw [List.foldl_append]; exact Jh s _ (by rw [h]; exact hE)
 rw [e2]
 exact Prod.ext (Qy s _ ls (by rw [h]; exact hE)) h
theorem Wj (v vs : Value) (s : jb) (ls : List TA) (w : World) (lm : xN w) (h : RS v ls w) (tk : qQ ls) (hn : ls.length ≤ maxLen) (rs : xh jf vs s.pts w) (hv : jT s = true) (hcol : s.col.ok) : Calls Tryz.prog 30 #[.agg #[v], .agg (jg vs s)] w fun e w' => ∃ a cp, e = .returned (.tuple #[.agg #[.slice a (jF s ls).1.length cp], .int .i64 (jF s ls).2]) ∧ RS (.slice a (jF s ls).1.length cp) (jF s ls).1 w' ∧ Below w.heap.size w w' := by
 have B := Below.refl w.heap.size w
 have HV0 := zo hv
 have HVS := zo ((xq s).1 hv)
 have HCOL := zo hcol
 have HFIN := zo (show jF s ls = xw s (xS s) (qh ls) from if_pos hv)
 have hl1 := HVS.out.l1
 have hl2 := HVS.out.l2
 obtain ⟨ad, cd, rfl, hcd⟩ := rs.len
 obtain ⟨g, o, rfl, pc⟩ := rs.at (by omega)
 obtain ⟨a, c, rfl, hc⟩ := h.len
 have TK := zo tk
 have rs1 := h
 have hg0 := pc.lt
 have hlm0 := lm.lt
 clear hv hcol h tk
 refine (callsIn_wide (n := 3)).1 ?_
 refine callsIn_of_wp_marks func30 rfl trivial ?_ rfl
 simp only [ntmps30, List.size_toArray, List.length_cons, List.length_nil, Nat.reduceAdd, Nat.reduceSub, Array.replicate_succ, Array.replicate_zero, List.push_toArray, List.append_toArray, List.nil_append, List.cons_append]
 refine wpIn_wide.2 ?_
 go_upto_region 0 with fail
 refine wp_region_lit ?_
 (refine jd (t := 64) B ?_; clear B; intro b_r2 wn zb zd r2 za zf zk B; replace lm := lm.be za; replace rs1 := rs1.be za; replace pc := pc.be za; replace rs := rs.be za)
 (refine jd (t := 30) B ?_; clear B; intro b_r3 wn zb zd r3 za zf zk B; replace r2 := r2.be za; replace lm := lm.be za; replace rs1 := rs1.be za; replace pc := pc.be za; replace rs := rs.be za)
 (refine jH (t := 64) (qK _ _ rfl) B ?_; clear B; intro b_r4 wn zb zd r4 za zf zk B; replace r2 := r2.be za; replace r3 := r3.be za; replace lm := lm.be za; replace rs1 := rs1.be za; replace pc := pc.be za; replace rs := rs.be za)
 (refine jH (t := 53) (Qd _ _ rfl) B ?_; clear B; intro b_e5 wn zb zd e5 za zf zk B; replace r2 := r2.be za; replace r3 := r3.be za; replace r4 := r4.be za; replace lm := lm.be za; replace rs1 := rs1.be za; replace pc := pc.be za; replace rs := rs.be za)
 refine wpList_nil ?_
 have k2 : w.heap.size ≤ b_r2 := by omega
 have k3 : b_r2 < b_r3 := by have := r2.lt; omega
 have k4 : b_r3 < b_r4 := by have := r3.lt; omega
 have k5 : b_r4 < b_e5 := by have := r4.lt; omega
 go_upto_region 1 with fail
 refine qz 1 ?_
 refine qe B (zE func16) (c := yi _ s true _ rs (by omega) HV0.out) ?_
 clear B
 intro wn za zf zg B
 replace r2 := r2.be za
 replace r3 := r3.be za
 replace r4 := r4.be za
 replace e5 := e5.be za
 replace lm := lm.be za
 replace rs1 := rs1.be za
 replace pc := pc.be za
 replace rs := rs.be za
 refine z7 1 ?_
 clear rs
 go_upto_region 3 with fail
 refine wp_region_lit ?_
 (refine qH rfl (.func (.func 72) #[] #[.pointer (some ⟨b_r3, 0, none⟩)]) (by first | rfl | simp [go_sem, Act.eval]) ?_; simp only [zn])
 (refine jH (t := 114) (Y9 _ _ rfl) B ?_; clear B; intro b_f6 wn zb zd f6 za zf zk B; replace r2 := r2.be za; replace r3 := r3.be za; replace r4 := r4.be za; replace e5 := e5.be za; replace lm := lm.be za; replace rs1 := rs1.be za; replace pc := pc.be za)
 (refine Q3 rfl _ _ rfl _ rfl _ _ _ rfl f6 (xV B (by omega) ?_); have f6o := f6; clear f6 B; intro wn f6 ze zf zg B; replace rs1 := rs1.chg f6o (by simp) ze; replace r2 := r2.cg ze; replace r3 := r3.cg ze; replace r4 := r4.cg ze; replace e5 := e5.cg ze; replace lm := lm.cg ze; replace pc := pc.cg ze; simp only [zn])
 refine wpList_nil ?_
 have k6 : b_e5 < b_f6 := by have := e5.lt; omega
 go_upto_region 4 with fail
 refine zS 2 ?_
 go_upto_if 23 with fail
 go_cut [] from 22 (fun wx => ∃ (gf : FuncId) (lb : Array Value), zw 114 wx b_f6 #[.func (.func gf) #[] lb] ∧ Hid (Go.Proofs.Enters Tryz.prog gf) ∧ Hid (∀ (W : World) (p q : Px) (n : Int), zw 30 W b_r3 (jg (.slice (some ⟨g, o, none⟩) s.pts.length cd) s) → p.ok → (0 ≤ n ∧ n ≤ 255) → chP s p n = q → Calls Tryz.prog gf (#[.agg (yq.enc p), .int .i64 n] ++ lb) W fun e w' => e = .returned (.agg (yq.enc q)) ∧ Below W.heap.size W w') ∧ Below w.heap.size w wx ∧ zw 64 wx b_r2 #[.slice a ls.length c] ∧ RS (.slice a ls.length c) ls wx ∧ zw 30 wx b_r3 (jg (.slice (some ⟨g, o, none⟩) s.pts.length cd) s) ∧ zw 64 wx b_r4 #[.slice none 0 0] ∧ zw 53 wx b_e5 #[.int .i64 0] ∧ xN wx ∧ zH jf g o s.pts wx)
 case first =>
  cases hera : s.era with
  | true =>
   have HERA := zo hera; clear hera; go_upto_region 5 with fail
   refine wp_region_lit ?_
   (refine Q3 rfl _ _ rfl _ rfl _ _ _ rfl f6 (xV B (by omega) ?_); have f6o := f6; clear f6 B; intro wn f6 ze zf zg B; replace rs1 := rs1.chg f6o (by simp) ze; replace r2 := r2.cg ze; replace r3 := r3.cg ze; replace r4 := r4.cg ze; replace e5 := e5.cg ze; replace lm := lm.cg ze; replace pc := pc.cg ze; simp only [zn])
   refine wpList_nil ?_; go_wp2; go_meet; refine ⟨_, _, f6, zo (zE func74), zo (fun W p q n h1 h2 h3 h4 => ?_), B, r2, rs1, r3, r4, e5, lm, pc⟩; exact zcZ p q n W h3 h2 (by rw [← h4]; unfold chP; rw [HERA.out]; rfl)
  | false =>
   have HERA := zo hera; clear hera; go_wp2; go_meet; refine ⟨_, _, f6, zo (zE func72), zo (fun W p q n h1 h2 h3 h4 => ?_), B, r2, rs1, r3, r4, e5, lm, pc⟩; exact zcY _ s p q n b_r3 W h1 h2 HCOL.out (by rw [← h4]; unfold chP; rw [HERA.out]; rfl)
 case rest =>
  clear B r2 rs1 r3 r4 e5 lm pc f6; obtain ⟨gf, lb, f6, HEN, HCH, B, r2, rs1, r3, r4, e5, lm, pc⟩ := hcut; obtain ⟨bv, hbv⟩ : ∃ b, ql ls = b := ⟨_, rfl⟩; have HBV := zo hbv; clear hbv; go_upto_region 6 with fail
  refine qz 1 ?_
  refine qe B (zE func41) (c := Ju _ ls bv _ rs1 TK.out hn HBV.out) ?_; clear B; intro wn za zf zg B
  replace f6 := f6.be za
  replace r2 := r2.be za
  replace r3 := r3.be za
  replace r4 := r4.be za
  replace e5 := e5.be za
  replace lm := lm.be za
  replace rs1 := rs1.be za
  replace pc := pc.be za; refine z7 1 ?_; go_upto_if 26 with fail
  go_cut [] from 22 (fun wx => ∃ (a0 : Option Addr) (c0 : Nat), zw 114 wx b_f6 #[.func (.func gf) #[] lb] ∧ Below w.heap.size w wx ∧ zw 64 wx b_r2 #[.slice a0 (qh ls).length c0] ∧ RS (.slice a0 (qh ls).length c0) (qh ls) wx ∧ zw 30 wx b_r3 (jg (.slice (some ⟨g, o, none⟩) s.pts.length cd) s) ∧ zw 64 wx b_r4 #[.slice none 0 0] ∧ zw 53 wx b_e5 #[.int .i64 0] ∧ xN wx ∧ zH jf g o s.pts wx)
  case first =>
   cases bv with
   | true =>
    go_wp2; go_meet; rw [kQ HBV.out]; exact ⟨_, _, f6, B, r2, rs1, r3, r4, e5, lm, pc⟩
   | false =>
    go_upto_region 7 with fail
    refine wp_region_lit ?_
    (refine qH rfl (.agg #[.slice none 0 0]) (by kernel_rfl) ?_; simp only [zn])
    (refine qZ r2 B ?_; clear r2 B; intro wn r2 ze zf zg B; replace f6 := f6.cg ze; replace r3 := r3.cg ze; replace r4 := r4.cg ze; replace e5 := e5.cg ze; replace lm := lm.cg ze; replace pc := pc.cg ze)
    refine wpList_nil ?_; go_wp2; go_meet; have hfn : qh ls = [] := by unfold qh; rw [HBV.out]; rfl
    rw [hfn]; exact ⟨_, _, f6, B, r2, RS.nil _, r3, r4, e5, lm, pc⟩
  case rest =>
   clear B r2 rs1 r3 r4 e5 lm pc f6 HBV; obtain ⟨a0, c0, f6, B, r2, rs1, r3, r4, e5, lm, pc⟩ := hcut; have VF := zo (jB ls); have TF := zo (yk TK.out); clear TK hn hc; obtain ⟨L0, hL0⟩ : ∃ l, qh ls = l := ⟨_, rfl⟩; rw [hL0] at r2 rs1 VF TF HFIN; clear hL0; have l6 := f6.lt; go_upto_region 8 with fail
   refine qz 1 ?_
   refine xz (zE func58) (c := zdg _ s _) (h := ?_); rintro e wn ⟨bw, rfl, hbw, r9, za⟩; obtain ⟨zf, zg, B⟩ := zM B za
   replace f6 := f6.be za
   replace r2 := r2.be za
   replace r3 := r3.be za
   replace r4 := r4.be za
   replace e5 := e5.be za
   replace lm := lm.be za
   replace rs1 := rs1.be za
   replace pc := pc.be za
   refine ⟨_, rfl, ?_⟩; simp only [zn]; refine wpList_nil ?_; have k7 : b_f6 < bw := by omega
   have k8 := r9.lt; obtain ⟨w1, hw1⟩ : ∃ w1, w1 = wn := ⟨_, rfl⟩; rw [← hw1] at B r2 rs1 r3 r4 e5 lm pc f6 r9 k8 ⊢; clear hw1; have hszB := B.size; go_wp2; refine (wpIn_wide (n := 3)).1 ?_; refine Y0 (F := Fence.wide) rfl (by omega) (gf := 109) (lb := #[.pointer (some ⟨bw, 0, none⟩)]) rfl trivial (zE func109) (Xt s HVS.out g o cd bw b_r2 w1.heap.size _ (by omega) _ r9 hcd pc (by omega) (by omega) (by omega) (by omega) (Nat.le_refl _)) (fun h k => Qn.trans h k) (fun W l o o' hl ho hc _ => Qn.putObj W l o o' hl ho hc) (fun A B h => Qn.be h) (Below.refl _ _) (fun _ => rfl)
    (fun pre W => ∃ (a1 : Option Addr) (c1 : Nat) (M : List TA), Hid (xw s (pre.map (fun i => xA s i.val)) L0 = (M, 0)) ∧ zw 64 W b_r2 #[.slice a1 M.length c1] ∧ RS (.slice a1 M.length c1) M W ∧ zw 30 W b_r3 (jg (.slice (some ⟨g, o, none⟩) s.pts.length cd) s) ∧ zw 64 W b_r4 #[.slice none 0 0] ∧ zw 53 W b_e5 #[.int .i64 0] ∧ zw 114 W b_f6 #[.func (.func gf) #[] lb] ∧ xN W ∧ Below w.heap.size w W)
    (fun pre W => ∃ (E : Int), Hid ((xw s (pre.map (fun i => xA s i.val)) L0).2 = E ∧ E ≠ 0) ∧ zw 64 W b_r4 #[.slice none 0 0] ∧ zw 53 W b_e5 #[.int .i64 E] ∧ Below w.heap.size w W)
    (fun pre W W' row hI hg hr => ?own) (fun pre W W' row hI hg hr => ?ownX)
    ⟨a0, c0, L0, zo rfl, r2, rs1, r3, r4, e5, f6, lm, B⟩
    (fun x a' W => ∃ b7 : Nat, a'.defers = [] ∧ a'.tmps.size = 99 ∧ a'.tmps.getD 2 undef = .pointer (some ⟨b_r2, 0, none⟩) ∧ a'.tmps.getD 3 undef = .pointer (some ⟨b_r3, 0, none⟩) ∧ a'.tmps.getD 4 undef = .pointer (some ⟨b_r4, 0, none⟩) ∧ a'.tmps.getD 5 undef = .pointer (some ⟨b_e5, 0, none⟩) ∧ a'.tmps.getD 6 undef = .pointer (some ⟨b_f6, 0, none⟩) ∧ a'.tmps.getD 7 undef = .pointer (some ⟨b7, 0, none⟩) ∧ zw 45 W b7 (kA.enc (xA s x.val)) ∧ b_f6 < b7)
    (fun x a' W W' row hA hg hr => ?own2) ?assign ?body ?done ?stop
   case own =>
    obtain ⟨a1, c1, M, h0, h1, h2, h3, h4, h5, h6, h7, h8⟩ := hI; have hne : ∀ b, b < w1.heap.size → row ≠ some b := fun b hb e => by have := (hr _ e).1; omega
    refine ⟨a1, c1, M, h0, h1.grown hg (hne _ (by omega)), h2.own3 hg (fun r e => ?_), h3.grown hg (hne _ (by omega)), h4.grown hg (hne _ (by omega)), h5.grown hg (hne _ (by omega)), h6.grown hg (hne _ (by omega)), h7.of_eq (hg.block _ h7.lt (fun e => hne _ (by omega) e.symm)), wu h8 h8.size hg (fun r e => Nat.le_trans hszB (hr r e).1)⟩; rcases (hr r e).2 with h | ⟨_, h⟩
    ·exact .inl h
    ·exact .inr h
   case ownX =>
    obtain ⟨E, h0, h4, h5, h8⟩ := hI; have hne : ∀ b, b < w1.heap.size → row ≠ some b := fun b hb e => by have := (hr _ e).1; omega
    exact ⟨E, h0, h4.grown hg (hne _ (by omega)), h5.grown hg (hne _ (by omega)), wu h8 h8.size hg (fun r e => Nat.le_trans hszB (hr r e).1)⟩
   case own2 =>
    obtain ⟨b7, e1, e2, e3, e4, e5', e6, e7, e8, h1, h2⟩ := hA; exact ⟨b7, e1, e2, e3, e4, e5', e6, e7, e8, h1.own hg (fun r e => (hr r e).2), h2⟩
   case assign =>
    intro l pre x W K ⟨_, _, _, _, _, _, _, _, _, hl6, _⟩ hbig hK; have B := Below.refl W.heap.size W; have hl := hl6.lt; obtain ⟨D, hD⟩ : ∃ p, xA s x.val = p := ⟨_, rfl⟩; rw [hD] at hK; rw [hD]
    dsimp only
    refine Ko ?_; simp only [List.setIfInBounds_toArray, List.set_cons_succ, List.set_cons_zero]; refine zx (by kernel_rfl) ?_
    (refine jH (t := 45) (y9 _ _ rfl) B ?_; clear B; intro b_d7 wn zb zd d7 za zf zk B)
    (refine qZ (hone := (by simp [kA, Value.oneCell'])) d7 B ?_; clear d7 B; intro wn d7 ze zf zg B)
    refine wpList_nil ?_; refine qN.at ?_; refine hK _ _ B ⟨_, rfl, rfl, rfl, rfl, rfl, rfl, rfl, rfl, d7, by omega⟩
   case stop =>
    rintro D pre W hD ⟨k, rfl⟩ ⟨E, HE, r4, e5, BW⟩ hDD; have kd : kL W D := hDD; have hE := zbX s k L0 HE.out.1 HE.out.2; rw [← HFIN.out] at hE; have HEQ := zo hE; clear hE; have BF := BW.trans (belowK_b (w := w) (Nat.le_refl _) W D _ (.deferred none) (by omega) kd rfl rfl); refine ⟨by simp, .inl ⟨_, _, rfl, run_takeDeferred kd, ?_⟩⟩; refine ⟨_, x4 (t := 64) (u := 53) rfl _ _ b_r4 b_e5 rfl rfl ((World.putObj_heap_other (fun e => kd.ne r4 (by omega))).trans r4) (xI ((World.putObj_heap_other (fun e => kd.ne e5 (by omega))).trans e5)) isAgg64 (by kernel_rfl), ?_⟩; rw [HEQ.out]; exact ⟨none, 0, rfl, RS.nil _, BF⟩
   case done =>
    rintro D xs W hD rfl ⟨a1, c1, M, HM, r2, rs1, r3, r4, e5, f6, lm, BW⟩ hDD; have kd : kL W D := hDD; have hM := HM.out; rw [JP] at hM; have hval := (wW HCOL.out (xS s) VF.out TF.out).1; rw [hM] at hval; rw [← HFIN.out] at hM; have hMn := (xp.1 hval).1
    dsimp only at hMn
    have HEQ := zo hM; have B := BW; have hwD : w.heap.size ≤ D := by omega
    have hne := kd.ne r4; have hne5 := kd.ne e5; clear BW r3 f6 lm hD hval hM; go_upto_region 28 with fail
    refine qz 2 ?_
    refine xz (zE func78) (c := yR _ M _ rs1 (by omega)) (h := ?_); rintro e wn ⟨v2, b2, rfl, _, _, od2, za⟩; obtain ⟨zf, zg, B⟩ := zM B za
    replace r2 := r2.be za
    replace r4 := r4.be za
    replace e5 := e5.be za
    replace kd := kd.be za
    have rs2 := od2.rs; clear od2; obtain ⟨a2, c2, rfl, hc2⟩ := rs2.len; refine ⟨_, rfl, ?_⟩; simp only [zn]; refine jL 1 ?_
    (refine qZ r4 B ?_; have r4o := r4; clear r4 B; intro wn r4 ze zf zg B; replace rs2 := rs2.chg r4o (by simp) ze; replace r2 := r2.cg ze; replace e5 := e5.cg ze; replace kd := kd.cg ze)
    (refine uW rfl _ _ rfl _ rfl _ rfl e5 (xV B (by omega) ?_); have e5o := e5; clear e5 B; intro wn e5 ze zf zg B; replace rs2 := rs2.chg e5o (by simp) ze; replace r2 := r2.cg ze; replace r4 := r4.cg ze; replace kd := kd.cg ze; simp only [zn])
    refine wpList_nil ?_; go_wp2; refine ⟨by simp, .inl ⟨_, _, rfl, run_takeDeferred kd, ?_⟩⟩; refine ⟨_, x4 (t := 64) (u := 53) rfl _ _ b_r4 b_e5 rfl rfl ((World.putObj_heap_other (fun e => hne (by omega))).trans r4) (xI ((World.putObj_heap_other (fun e => hne5 (by omega))).trans e5)) isAgg64 (by kernel_rfl), ?_⟩; have BF := B.trans (belowK_b (w := w) (Nat.le_refl _) wn D _ (.deferred none) hwD kd rfl rfl); rw [HEQ.out]; exact ⟨_, _, rfl, rs2.own (grownBy_putObj' _ _ _) (fun r e => by cases e; exact ⟨_, kd, rfl⟩), BF⟩
   case body =>
    rintro l pre x W ⟨tm, df⟩ ⟨a1, c1, M, HM, r2, rs1, r3, r4, e5, f6, lm, BW⟩ ⟨b7, e1, e2, e3, e4, e5', e6, e7, e8, p7, k10⟩ hpre; obtain ⟨U, hU, hUi⟩ := Wu tm 99 e2
    dsimp only at e3 e4 e5' e6 e7 e8
    rw [← hUi] at e3 e4 e5' e6 e7 e8; have eL : ((List.range 99).map U).toArray = #[U 0, U 1, U 2, U 3, U 4, U 5, U 6, U 7, U 8, U 9, U 10, U 11, U 12, U 13, U 14, U 15, U 16, U 17, U 18, U 19, U 20, U 21, U 22, U 23, U 24, U 25, U 26, U 27, U 28, U 29, U 30, U 31, U 32, U 33, U 34, U 35, U 36, U 37, U 38, U 39, U 40, U 41, U 42, U 43, U 44, U 45, U 46, U 47, U 48, U 49, U 50, U 51, U 52, U 53, U 54, U 55, U 56, U 57, U 58, U 59, U 60, U 61, U 62, U 63, U 64, U 65, U 66, U 67, U 68, U 69, U 70, U 71, U 72, U 73, U 74, U 75, U 76, U 77, U 78, U 79, U 80, U 81, U 82, U 83, U 84, U 85, U 86, U 87, U 88, U 89, U 90, U 91, U 92, U 93, U 94, U 95, U 96, U 97, U 98] := rfl; rw [eL] at hU; rw [e3, e4, e5', e6, e7, e8] at hU; subst hU; have e1 : df = [] := e1; subst e1; clear e2 e3 e4 e5' e6 e7 e8 hUi eL; have hval := wW HCOL.out (pre.map (fun i => xA s i.val)) VF.out TF.out; have HST0 : xw s ((pre ++ [x]).map (fun i => xA s i.val)) L0 = xR s (M, 0) (xA s x.val) := by
     rw [List.map_append]; show xw s (pre.map (fun i => xA s i.val) ++ [xA s x.val]) L0 = _
     rw [XT, HM.out]
    rw [HM.out] at hval; have VM := zo hval.1; have TM := zo hval.2; have hMn := (xp.1 hval.1).1
    dsimp only at hMn
    have OKD := zo (zaH HVS.out x.isLt)
    generalize hD : xA s x.val = D at *
    obtain ⟨o1, o2, o3, o4, o5, o6⟩ := OKD.out; have HST := zo HST0; clear hD HST0 hval HM; obtain ⟨qs, hqs⟩ : ∃ q, kZ D = q := ⟨_, rfl⟩; obtain ⟨c, hcc⟩ : ∃ q, Qk D = q := ⟨_, rfl⟩; have HQS := zo hqs; have HC0 := zo hcc; have HC := zo (show y4 qs Q5 = c from by rw [← hqs, ← hcc]; rfl)
    clear hqs hcc; have R2W := zo r2; have RS1W := zo rs1; have R4W := zo r4; have E5W := zo e5; have LMW := zo lm; have BWW := zo BW; have hws := BW.size; have l2 := r2.lt; have l3 := r3.lt; have l4 := r4.lt; have l5 := e5.lt; have l6 := f6.lt; have l7 := p7.lt; have l0 := lm.lt; have B := Below.refl W.heap.size W; clear rs1 r4 e5 BW; gi_upto_region 10 with fail
    have lx_r3 := r3.lt
    have lx_f6 := f6.lt
    have lx_p7 := p7.lt
    refine VH (by kernel_rfl) 5 [(1, zF ?v1_1), (3, zF ?v1_3), (4, zgv (W.heap.size) 38 #[.int .i64 0, .int .i64 0, .int .i64 0, .int .i64 0])] (by kernel_rfl) (by kernel_rfl) (by kernel_rfl) ?_
    rotate_left 2
    simp only [jS, Nat.reduceAdd]; refine vi 1 ?_
    refine zcB ?_ ?_
    ·intro wn za hE Kx hKx
     obtain ⟨zf, zg, B⟩ := zM B za
     replace r2 := r2.be za
     replace r3 := r3.be za
     replace f6 := f6.be za
     replace lm := lm.be za
     replace p7 := p7.be za
     refine zcF func62 ?_
     refine (kO D qs wn (by omega) (by omega) (by omega) HQS.out).mono ?_; rintro e wm ⟨rfl, zl⟩; refine ⟨_, rfl, ?_⟩; have hz := hKx () wm trivial zl
     dsimp only [zF] at hz
     exact hz
    rintro ⟨⟩
    dsimp only [zF]
    simp only [zn]; refine vV 1 ?_; repeat (first | go_big_quiet_skip | (go_big_quiet_want; first | ((first | refine zq (fun w hw => Qf (zep lm w hw)) ?_ | refine qB ?_ | refine qC ?_); simp only [zn]; go_big_quiet_on) | (go_big_quiet_op; go_big_quiet_on)))
    refine wpQuiet_nil ?_; refine zcB ?_ ?_
    ·intro wn za hE Kx hKx
     obtain ⟨zf, zg, B⟩ := zM B za
     replace r2 := r2.be za
     replace r3 := r3.be za
     replace f6 := f6.be za
     replace lm := lm.be za
     replace p7 := p7.be za
     refine zcF func46 ?_
     refine (Kz qs Q5 c wn HC.out).mono ?_; rintro e wm ⟨rfl, zl⟩; refine ⟨_, rfl, ?_⟩; have hz := hKx () wm trivial zl
     dsimp only [zF] at hz
     exact hz
    rintro ⟨⟩
    dsimp only [zF]
    simp only [zn]; refine zcB ?_ ?_
    ·intro wn za hE Kx hKx
     obtain ⟨zf, zg, B⟩ := zM B za
     replace r2 := r2.be za
     replace r3 := r3.be za
     replace f6 := f6.be za
     replace lm := lm.be za
     replace p7 := p7.be za
     refine zO (t := 38) _ (zN _ _ rfl) ?_; intro b wm h1 h2 ht zl zm; exact hKx b wm ⟨Nat.le_trans za.size h1, ht⟩ (zl.mono h1)
    rintro b_c8
    dsimp only [zF, zgv]
    simp only [zn]; refine qi ?_; intro wn za hE; obtain ⟨zf, zg, B⟩ := zM B za
    replace r2 := r2.be za
    replace r3 := r3.be za
    replace f6 := f6.be za
    replace lm := lm.be za
    replace p7 := p7.be za
    obtain ⟨hge_c8, c8⟩ : _ ∧ zw _ _ _ _ := hE 4; clear hE; try simp only [List.drop_succ_cons, List.drop_zero]
    (refine qZ (hone := (by simp [jP, Value.oneCell'])) c8 B ?_; clear c8 B; intro wn c8 ze zf zg B; replace r2 := r2.cg ze; replace r3 := r3.cg ze; replace f6 := f6.cg ze; replace lm := lm.cg ze; replace p7 := p7.cg ze)
    refine wpList_nil ?_; refine zI.normal ?_; refine qN.at ?_; try dsimp only
    replace c8 : zw 38 _ b_c8 (jP c) := c8; have k11 : W.heap.size ≤ b_c8 := by omega
    by_cases hr1 : D.r < 1
    ·have q1 : decide (D.r < 1) = true := zQ hr1
     gi_upto_region 11 with fail
     refine zx (by kernel_rfl) ?_; refine jL 5 ?_
     refine qm ?hs11_5 ?_
     case hs11_5 => kernel_rfl
     simp only [zn]; refine z7 1 ?_; refine qN.at ?_; try dsimp only
     gi_wp2
     refine ⟨KeepsOthers.be B, Qn.be B, a1, c1, M, zo ?_, r2, RS1W.out.be B, r3, R4W.out.of_eq (B.block _ l4), E5W.out.of_eq (B.block _ l5), f6, lm, BWW.out.trans (B.mono hws)⟩; rw [HST.out]; exact vt s _ (by unfold Kq; rw [q1]; rfl)
    ·have q1 : decide (D.r < 1) = false := zB hr1
     cases hem : z8 c with
     | true =>
      have HEM := zo hem; clear hem; gi_upto_region 11 with fail
      refine zx (by kernel_rfl) ?_; refine jL 5 ?_
      refine qe B (zE func45) (c := Js c true _ HEM.out) ?_; clear B; intro wn za zf zg B
      replace r2 := r2.be za
      replace r3 := r3.be za
      replace f6 := f6.be za
      replace lm := lm.be za
      replace p7 := p7.be za
      replace c8 := c8.be za; refine z7 1 ?_; refine qN.at ?_; try dsimp only
      gi_wp2
      refine ⟨KeepsOthers.be B, Qn.be B, a1, c1, M, zo ?_, r2, RS1W.out.be B, r3, R4W.out.of_eq (B.block _ l4), E5W.out.of_eq (B.block _ l5), f6, lm, BWW.out.trans (B.mono hws)⟩; rw [HST.out]; exact vt s _ (by unfold Kq; rw [HC0.out, HEM.out]; simp)
     | false =>
      have HSK : Kq D = false := by unfold Kq; rw [HC0.out, hem, q1]; rfl
      have HEM := zo hem; clear hem; obtain ⟨HE1, HF1⟩ := Jn OKD.out HSK; rw [HC0.out] at HE1 HF1; have HST2 : xw s ((pre ++ [x]).map (fun i => xA s i.val)) L0 = (y7 c (kX s D M) M, vX c (kX s D M) M) := by rw [HST.out, Jg s HSK, HC0.out]
      have HIL : kX s D M = kE c (fun x y => ux s (kP D x y) (xJ M x y)) := by unfold kX; rw [HC0.out]
      have okI : Ks (kX s D M) := YP HCOL.out D TM.out; have hIn : (kX s D M).length = areaN c := by rw [Z2, HC0.out]
      have HE0 := zo HE1; have HFit := zo HF1; have HA := zo (wU HF1); have HAW := zo (xX HF1).1; obtain ⟨f1, f2, f3, f4, f5, f6', f7, f8⟩ := HF1; have hwid : (widN c : Int) = c.x1 - c.x0 := by unfold widN; omega
      obtain ⟨Wd, hWd⟩ : ∃ n, widN c = n := ⟨_, rfl⟩; rw [hWd] at hwid; have HWD := zo hWd; clear hWd HE1; obtain ⟨I, hI⟩ : ∃ l, kX s D M = l := ⟨_, rfl⟩; rw [hI] at HST2 HIL okI hIn; have HS2 := zo HST2; have HI := zo HIL; have OKI := zo okI; clear HST2 HIL okI hI HSK HST; obtain ⟨R', hR'⟩ : ∃ l, y7 c I M = l := ⟨_, rfl⟩; obtain ⟨E, hE⟩ : ∃ e, vX c I M = e := ⟨_, rfl⟩; have HR' := zo hR'; have HEe := zo hE; clear hR' hE; gi_upto_region 11 with fail
      refine zx (by kernel_rfl) ?_; refine jL 5 ?_
      refine qe B (zE func45) (c := Js c false _ HEM.out) ?_; clear B; intro wn za zf zg B
      replace r2 := r2.be za
      replace r3 := r3.be za
      replace f6 := f6.be za
      replace lm := lm.be za
      replace p7 := p7.be za
      replace c8 := c8.be za; refine z7 1 ?_; refine qN.at ?_; try dsimp only
      have rs1 := RS1W.out.be B; have hc8 := c8.lt; have hszW := B.size; gi_upto_region 12 with fail
      refine zx (by kernel_rfl) ?_; refine jL 2 ?_
      refine xz (zE func76) (c := Kw _ M c _ rs1 TM.out VM.out HE0.out) (h := ?_); rintro e wn ⟨cb, hcb, rfl, row, za⟩; obtain ⟨zf, zg, B⟩ := zM B za
      replace r2 := r2.be za
      replace r3 := r3.be za
      replace f6 := f6.be za
      replace lm := lm.be za
      replace p7 := p7.be za
      replace c8 := c8.be za
      have kcb : W.heap.size ≤ cb := by omega
      have kc8 : @LT.lt Nat _ b_c8 cb := by omega
      clear rs1; refine ⟨_, rfl, ?_⟩; simp only [zn]; refine jL 3 ?_
      (have _ := row.lt; refine jH (t := 117) (ym _ _ rfl) B ?_; clear B; intro b_i9 wn zb zd i9 za zf zk B; replace r2 := r2.be za; replace r3 := r3.be za; replace f6 := f6.be za; replace lm := lm.be za; replace p7 := p7.be za; replace c8 := c8.be za; replace row := row.be za)
      (refine qZ (hone := (by simp [jy, Value.oneCell'])) i9 B ?_; clear i9 B; intro wn i9 ze zf zg B; replace r2 := r2.cg ze; replace r3 := r3.cg ze; replace f6 := f6.cg ze; replace lm := lm.cg ze; replace p7 := p7.cg ze; replace c8 := c8.cg ze; replace row := row.cg ze)
      refine z7 1 ?_; refine qN.at ?_; try dsimp only
      replace i9 : zw 117 _ b_i9 (jy c (.slice (some ⟨cb, 0, none⟩) (areaN c) (areaN c))) := i9; have kci : b_i9 ≠ cb := by omega
      clear lm r2; gi_upto_region 13 with fail
      refine zx (by kernel_rfl) ?_; refine z7 1 ?_; refine qN.at ?_; try dsimp only
      gi_upto_region 14 with fail
      refine zx (by kernel_rfl) ?_; refine z7 3 ?_; refine qN.at ?_; try dsimp only
      gi_wp2
      gi_loopw [11, 12, 13, 14] (fun kv yv _ _ wr => ∃ (i k : Nat) (R : List Px), (i : Int) ≤ c.y1 - c.y0 ∧ Hid (k = i * Wd) ∧ kv = .int .i64 (k : Int) ∧ yv = .int .i64 (c.y0 + (i : Int)) ∧ Hid (vW c (fun x y => ux s (kP D x y) (xJ M x y)) (fun x y => xJ M x y) k = R) ∧ Below W.heap.size W wr ∧ zw 45 wr b7 (kA.enc D) ∧ zw 38 wr b_c8 (jP c) ∧ zw 117 wr b_i9 (jy c (.slice (some ⟨cb, 0, none⟩) (areaN c) (areaN c))) ∧ zw 114 wr b_f6 #[.func (.func gf) #[] lb] ∧ zw 30 wr b_r3 (jg (.slice (some ⟨g, o, none⟩) s.pts.length cd) s) ∧ jW yq wr cb R) (fun _ yv _ _ _ => (c.y1 - intOf yv).toNat)
      case atStart => exact ⟨0, 0, _, by omega, zo (by rw [Nat.zero_mul]), rfl, by rw [Int.natCast_zero, Int.add_zero], zo (zb0 c M _), B, p7, c8, i9, f6, r3, row⟩
      case round =>
       clear B p7 c8 i9 f6 r3 row; obtain ⟨i, k, R, hi, HK, rfl, rfl, HR, B, p7, c8, i9, f6, r3, row⟩ := hrel; by_cases hi1 : (i : Int) < c.y1 - c.y0
       ·have q2 : decide (c.y0 + (i : Int) < c.y1) = true := zQ (by omega)
        gi_upto_region 15 with fail
        refine zx (by kernel_rfl) ?_; refine z7 4 ?_; refine qN.at ?_; try dsimp only
        gi_upto_region 17 with fail
        refine zx (by kernel_rfl) ?_; refine z7 3 ?_; refine qN.at ?_; try dsimp only
        gi_wp2
        gi_loopw [11, 13, 14] (fun kv xv _ wr => ∃ (j k : Nat) (R : List Px), (j : Int) ≤ c.x1 - c.x0 ∧ Hid (k = i * Wd + j) ∧ kv = .int .i64 (k : Int) ∧ xv = .int .i64 (c.x0 + (j : Int)) ∧ Hid (vW c (fun x y => ux s (kP D x y) (xJ M x y)) (fun x y => xJ M x y) k = R) ∧ Below W.heap.size W wr ∧ zw 45 wr b7 (kA.enc D) ∧ zw 38 wr b_c8 (jP c) ∧ zw 117 wr b_i9 (jy c (.slice (some ⟨cb, 0, none⟩) (areaN c) (areaN c))) ∧ zw 114 wr b_f6 #[.func (.func gf) #[] lb] ∧ zw 30 wr b_r3 (jg (.slice (some ⟨g, o, none⟩) s.pts.length cd) s) ∧ jW yq wr cb R) (fun _ xv _ _ => (c.x1 - intOf xv).toNat)
        case atStart => exact ⟨0, k, R, by omega, zo (by rw [Nat.add_zero]; exact HK.out), rfl, by rw [Int.natCast_zero, Int.add_zero], HR, B, p7, c8, i9, f6, r3, row⟩
        case round =>
         clear B p7 c8 i9 f6 r3 row HR HK; obtain ⟨j, k, R, hj, HK, rfl, rfl, HR, B, p7, c8, i9, f6, r3, row⟩ := hrel; by_cases hj1 : (j : Int) < c.x1 - c.x0
         ·have q3 : decide (c.x0 + (j : Int) < c.x1) = true := zQ (by omega)
          have hat := zed HFit.out (fun x y => ux s (kP D x y) (xJ M x y)) (fun x y => xJ M x y) (i := i) (j := j) hj1 hi1; rw [HWD.out] at hat; simp only [← Nat.add_assoc, ← HK.out] at hat; obtain ⟨hka, hp, hset, hsame⟩ := hat; have okp : (xJ M (c.x0 + (j : Int)) (c.y0 + (i : Int))).ok := yJ TM.out _ _ _ (by omega); obtain ⟨p, hpe⟩ : ∃ p, xJ M (c.x0 + (j : Int)) (c.y0 + (i : Int)) = p := ⟨_, rfl⟩; obtain ⟨n, hn⟩ : ∃ n, kP D (c.x0 + (j : Int)) (c.y0 + (i : Int)) = n := ⟨_, rfl⟩; have hnb := zaA D (c.x0 + (j : Int)) (c.y0 + (i : Int)); rw [hpe] at hp hset hsame okp; rw [hn] at hset hsame hnb; rw [HR.out] at hp hset hsame; have HN := zo hn; have OKP := zo okp; have hRl : R.length = areaN c := by rw [← HR.out]; exact zea _ _ _ _
          have hA2 := HA.out; have hkR : k < R.length := by omega
          have HP := zo hp; clear hn hpe okp hp; gi_upto_region 18 with fail
          refine zx (by kernel_rfl) ?_; refine z7 4 ?_; refine qN.at ?_; try dsimp only
          gi_upto_region 20 with fail
          refine zx (by kernel_rfl) ?_; refine jL 3 ?_
          refine qe B (zE func24) (c := zag D (c.x0 + (j : Int)) (c.y0 + (i : Int)) n _ (by omega) (by omega) (by omega) HN.out) ?_; clear B; intro wn za zf zg B
          replace p7 := p7.be za
          replace c8 := c8.be za
          replace i9 := i9.be za
          replace f6 := f6.be za
          replace r3 := r3.be za
          replace row := row.be za; refine z7 1 ?_; refine qN.at ?_; try dsimp only
          by_cases hn0 : 0 < n
          ·have q4 : decide (0 < n) = true := zQ hn0
           have q4' : decide (n > 0) = true := zQ hn0; obtain ⟨q, hq⟩ : ∃ q, chP s p n = q := ⟨_, rfl⟩; rw [zaS, if_pos hn0, hq] at hset; have HQ := zo hq; have HSET := zo hset; clear hq hset hsame; gi_upto_region 21 with fail
           refine zx (by kernel_rfl) ?_; refine z7 2 ?_; refine qN.at ?_; try dsimp only
           have rc := row.cells; have q5 : decide ((k : Int) < (areaN c : Int)) = true := zQ (by omega); have q6 : decide (k < areaN c) = true := zQ hka; gi_upto_region 22 with fail
           have lx_p7 := p7.lt
           have lx_f6 := f6.lt
           have lx_r3 := r3.lt
           refine VH (by kernel_rfl) 12 [(10, zF ?v2_10)] (by kernel_rfl) (by kernel_rfl) (by kernel_rfl) ?_
           rotate_left 1
           simp only [jS, Nat.reduceAdd]; refine vV 10 ?_; repeat (first | go_big_quiet_skip | (go_big_quiet_want; first | ((first | refine zq (fun w hw => qL (xQ (zY i9 w hw))) ?_ | refine zq (fun w hw => VQ (zY f6 w hw)) ?_ | refine zq (fun w hw => (qD rc w hw).load isAgg28 HP.out) ?_ | refine qB ?_ | refine qC ?_); simp only [zn]; go_big_quiet_on) | (go_big_quiet_op; go_big_quiet_on)))
           refine wpQuiet_nil ?_; refine zcB ?_ ?_
           ·intro wn za hE Kx hKx
            obtain ⟨zf, zg, B⟩ := zM B za
            replace p7 := p7.be za
            replace c8 := c8.be za
            replace i9 := i9.be za
            replace f6 := f6.be za
            replace r3 := r3.be za
            replace row := row.be za
            replace rc := rc.be za
            refine Wa rfl (by simp only [Act.eval, yj]; rfl) HEN.out (by simp only [Act.eval, yj]; rfl) ?_
            refine (HCH.out wn p q n r3 OKP.out hnb HQ.out).mono ?_; rintro e wm ⟨rfl, zl⟩; refine ⟨_, rfl, ?_⟩; have hz := hKx () wm trivial zl
            dsimp only [zF] at hz
            exact hz
           rintro ⟨⟩
           dsimp only [zF]
           simp only [zn]; refine vi 1 ?_; refine qi ?_; intro wn za hE; obtain ⟨zf, zg, B⟩ := zM B za
           replace p7 := p7.be za
           replace c8 := c8.be za
           replace i9 := i9.be za
           replace f6 := f6.be za
           replace r3 := r3.be za
           replace row := row.be za
           replace rc := rc.be za
           clear hE; try simp only [List.drop_succ_cons, List.drop_zero]
           clear rc
           (refine ut rfl _ _ rfl _ _ rfl q rfl row k hkR (by first | rfl | omega) (xV B (by omega) ?_); clear row B; intro wn row ze zf zg B; replace p7 := p7.cg ze; replace c8 := c8.cg ze; replace i9 := i9.cg ze; replace f6 := f6.cg ze; replace r3 := r3.cg ze; simp only [zn])
           refine wpList_nil ?_; refine zI.normal ?_; refine qN.at ?_; try dsimp only
           rw [HSET.out] at row; gi_upto_region 23 with fail
           refine zx (by kernel_rfl) ?_; refine z7 3 ?_; refine qN.at ?_; try dsimp only
           gi_upto_region 19 with fail
           refine zx (by kernel_rfl) ?_; refine z7 3 ?_; refine qN.at ?_; try dsimp only
           gi_wp2
           go_roundw
           case rel => exact ⟨j + 1, k + 1, _, by omega, zo (by rw [HK.out, Nat.add_assoc]), by go_num, by go_num, zo rfl, B, p7, c8, i9, f6, r3, row⟩
           case measure => simp [intOf]; omega
          ·have q4 : decide (0 < n) = false := zB hn0
           have q4' : decide (n > 0) = false := zB hn0; rw [zaS, if_neg hn0] at hsame; have HSAME := zo (hsame rfl); clear hset hsame; gi_upto_region 21 with fail
           refine zx (by kernel_rfl) ?_; refine z7 2 ?_; refine qN.at ?_; try dsimp only
           gi_upto_region 23 with fail
           refine zx (by kernel_rfl) ?_; refine z7 3 ?_; refine qN.at ?_; try dsimp only
           gi_upto_region 19 with fail
           refine zx (by kernel_rfl) ?_; refine z7 3 ?_; refine qN.at ?_; try dsimp only
           gi_wp2
           go_roundw
           case rel => exact ⟨j + 1, k + 1, R, by omega, zo (by rw [HK.out, Nat.add_assoc]), by go_num, by go_num, HSAME, B, p7, c8, i9, f6, r3, row⟩
           case measure => simp [intOf]; omega
         ·have q3 : decide (c.x0 + (j : Int) < c.x1) = false := zB (by omega)
          have HKN := zo (show k = (i + 1) * Wd from by rw [Nat.add_mul, Nat.one_mul, HK.out]; omega)
          gi_upto_region 18 with fail
          refine zx (by kernel_rfl) ?_; refine z7 4 ?_; refine qN.at ?_; try dsimp only
          gi_upto_region 16 with fail
          refine zx (by kernel_rfl) ?_; refine z7 3 ?_; refine qN.at ?_; try dsimp only
          gi_wp2
          go_roundw
          case rel => exact ⟨i + 1, k, R, by omega, HKN, rfl, by go_num, HR, B, p7, c8, i9, f6, r3, row⟩
          case measure => simp [intOf]; omega
       ·have q2 : decide (c.y0 + (i : Int) < c.y1) = false := zB (by omega)
        have hiH : i = (c.y1 - c.y0).toNat := by omega
        have hkA : k = areaN c := by rw [HK.out, HAW.out, HWD.out, hiH, Nat.mul_comm]
        have hRI : R = I := by rw [← HR.out, hkA, zd9, ← HI.out]
        subst hRI; clear hkA hiH HR; gi_upto_region 15 with fail
        refine zx (by kernel_rfl) ?_; refine z7 4 ?_; refine qN.at ?_; try dsimp only
        gi_upto_region 24 with fail
        have r2 := R2W.out.of_eq (B.block _ l2); have rs1 := RS1W.out.be B; have hu := row.rs; rw [hIn] at hu; have hA2 := HA.out; gi_upto_region 24 with fail
        refine zx (by kernel_rfl) ?_; refine jD 2 ?_
        repeat (first | go_big_quiet_skip | (go_big_quiet_want; first | ((first | refine zq (fun w hw => ub (zY i9 w hw)) ?_ | refine qB ?_ | refine qC ?_); simp only [zn]; go_big_quiet_on) | (go_big_quiet_op; go_big_quiet_on)))
        refine wpQuiet_nil ?_; refine xz (zE func77) (c := zc2 _ M R' E c _ R _ rs1 TM.out (by unfold maxLen; omega) hu (by rw [hIn]; unfold maxLen; omega) OKI.out HR'.out HEe.out) (h := ?_)
        rintro e wn ⟨a5, c5, rfl, rs5, za⟩; obtain ⟨zf, zg, B⟩ := zM B za
        replace r2 := r2.be za
        replace f6 := f6.be za
        replace r3 := r3.be za
        clear rs1 hu row; refine ⟨_, rfl, ?_⟩; simp only [zn]; refine jL 3 ?_
        (refine jH (t := 64) (qK _ _ rfl) B ?_; clear B; intro b_t15 wn zb zd t15 za zf zk B; replace r2 := r2.be za; replace f6 := f6.be za; replace r3 := r3.be za; replace rs5 := rs5.be za)
        (refine qZ t15 B ?_; have t15o := t15; clear t15 B; intro wn t15 ze zf zg B; replace rs5 := rs5.chg t15o (by simp) ze; replace r2 := r2.cg ze; replace f6 := f6.cg ze; replace r3 := r3.cg ze)
        refine z7 1 ?_; refine qN.at ?_; try dsimp only
        have hrs5 : R'.length ≤ R'.length := Nat.le_refl _; have hws5 := B.size; by_cases hE0 : E = 0
        ·subst hE0
         gi_upto_region 25 with fail
         refine zx (by kernel_rfl) ?_; refine z7 2 ?_; refine qN.at ?_; try dsimp only
         gi_upto_region 27 with fail
         refine zx (by kernel_rfl) ?_; refine jL 1 ?_
         (refine zZ (t := 64) rfl _ _ rfl _ rfl _ rfl r2 (by kernel_rfl) rfl (by simp [Value.oneCell']) ?_; intro wn ht ze zg; have r2o := r2; clear r2; have r2 := ht; clear ht; simp only [zn])
         refine wpList_nil ?_; refine qN.at ?_; try dsimp only
         gi_wp2
         have CH := (qY.of_below (b := b_r2) B).trans ze; refine ⟨KeepsOthers.chgB CH R2W.out, (Qn.be B).trans (Qn.exc ze.size (fun j h1 h2 => ze.block j h1 h2) r2o (by decide)), a5, c5, R', zo ?_, r2, rs5.chg r2o (by simp) ze, r3.of_eq (ze.block _ r3.lt (by omega)), ?_, ?_, f6.of_eq (ze.block _ f6.lt (by omega)), ?_, qY.be (BWW.out.trans (B.mono hws)) ze k2 (Nat.le_trans hws hws5)⟩
         ·rw [HS2.out, HR'.out, HEe.out]
         ·have h4 := R4W.out.of_eq (B.block _ l4)
          exact h4.of_eq (ze.block _ h4.lt (by omega))
         ·have h5 := E5W.out.of_eq (B.block _ l5)
          exact h5.of_eq (ze.block _ h5.lt (by omega))
         ·have h0 := LMW.out.be B
          exact h0.of_eq (ze.block _ h0.lt (by omega))
        ·have q7 : (E != 0) = true := by simpa using hE0
         gi_upto_region 25 with fail
         refine zx (by kernel_rfl) ?_; refine z7 2 ?_; refine qN.at ?_; try dsimp only
         have r4 := R4W.out.of_eq (B.block _ l4); have e5 := E5W.out.of_eq (B.block _ l5); have BE := BWW.out.trans (B.mono hws); have KE := KeepsOthers.be B; gi_upto_region 26 with fail
         refine zx (by kernel_rfl) ?_
         (refine qH rfl (.agg #[.slice none 0 0]) (by kernel_rfl) ?_; simp only [zn])
         refine jL 1 ?_
         (refine zZ (t := 64) rfl _ _ rfl _ rfl _ rfl r4 (by kernel_rfl) rfl (by simp [Value.oneCell']) ?_; have HTO := r4; clear r4; intro wn ht ze zg; replace zg := Nat.le_of_eq zg.symm; replace BE := qY.be BE ze (by omega) BE.size; replace KE := KE.trans (KeepsOthers.chgB ze HTO); replace e5 := e5.cg ze; have r4 := ht; clear ht; simp only [zn])
         (refine uW rfl _ _ rfl _ rfl _ rfl e5 ?_; have HTO := e5; clear e5; intro wn ht ze zg; replace zg := Nat.le_of_eq zg.symm; replace BE := qY.be BE ze (by omega) BE.size; replace KE := KE.trans (KeepsOthers.chgB ze HTO); replace r4 := r4.cg ze; have e5 := ht; clear ht; simp only [zn])
         refine wpList_nil ?_; refine qN.at ?_; try dsimp only
         gi_wp2
         exact ⟨KE, rfl, E, zo ⟨by rw [HS2.out, HEe.out], hE0⟩, r4, e5, BE⟩
theorem Wh (v vs : Value) (s : jb) (ls : List TA) (w : World) (h : RS v ls w) (rs : xh jf vs s.pts w) (hn : s.pts.length ≤ 17592186044416) (hv : jT s = false) : Calls Tryz.prog 30 #[.agg #[v], .agg (jg vs s)] w fun e w' => e = .returned (.tuple #[.agg #[.slice none 0 0], .int .i64 1]) ∧ Below w.heap.size w w' := by
 have B := Below.refl w.heap.size w
 have HV0 := zo hv
 obtain ⟨ad, cd, rfl, hcd⟩ := rs.len
 obtain ⟨a, c, rfl, hc⟩ := h.len
 clear hv h
 go_enter func30, ntmps30
 go_upto_region 0 with fail
 refine wp_region_lit ?_
 (refine jd (t := 64) B ?_; clear B; intro b_r2 wn zb zd r2 za zf zk B; replace rs := rs.be za)
 (refine jd (t := 30) B ?_; clear B; intro b_r3 wn zb zd r3 za zf zk B; replace rs := rs.be za)
 (refine jH (t := 64) (qK _ _ rfl) B ?_; clear B; intro b_r4 wn zb zd r4 za zf zk B; replace r3 := r3.be za; replace rs := rs.be za)
 (refine jH (t := 53) (Qd _ _ rfl) B ?_; clear B; intro b_e5 wn zb zd e5 za zf zk B; replace r3 := r3.be za; replace r4 := r4.be za; replace rs := rs.be za)
 refine wpList_nil ?_
 have k5 : b_r4 < b_e5 := by have := r4.lt; omega
 go_upto_region 1 with fail
 refine qz 1 ?_
 refine qe B (zE func16) (c := yi _ s false _ rs hn HV0.out) ?_
 clear B
 intro wn za zf zg B
 replace r4 := r4.be za
 replace e5 := e5.be za
 refine z7 1 ?_
 go_upto_region 2 with fail
 refine wp_region_lit ?_
 (refine qH rfl (.agg #[.slice none 0 0]) (by kernel_rfl) ?_; simp only [zn])
 (refine qZ r4 B ?_; clear r4 B; intro wn r4 ze zf zg B; replace e5 := e5.cg ze)
 (refine uW rfl _ _ rfl _ rfl _ rfl e5 (xV B (by omega) ?_); clear e5 B; intro wn e5 ze zf zg B; replace r4 := r4.cg ze; simp only [zn])
 refine wpList_nil ?_
 first | (refine bodyPost_ret (x4 (t := 64) (u := 53) rfl _ _ b_r4 b_e5 rfl rfl r4 (xI e5) isAgg64 (by kernel_rfl)) rfl ?_) | (go_step; refine bodyPost_ret (x4 (t := 64) (u := 53) rfl _ _ b_r4 b_e5 rfl rfl r4 (xI e5) isAgg64 (by kernel_rfl)) rfl ?_) | (go_step; go_step; refine bodyPost_ret (x4 (t := 64) (u := 53) rfl _ _ b_r4 b_e5 rfl rfl r4 (xI e5) isAgg64 (by kernel_rfl)) rfl ?_) | (go_step; go_step; go_step; refine bodyPost_ret (x4 (t := 64) (u := 53) rfl _ _ b_r4 b_e5 rfl rfl r4 (xI e5) isAgg64 (by kernel_rfl)) rfl ?_) | (go_step; go_step; go_step; go_step; refine bodyPost_ret (x4 (t := 64) (u := 53) rfl _ _ b_r4 b_e5 rfl rfl r4 (xI e5) isAgg64 (by kernel_rfl)) rfl ?_) | (go_step; go_step; go_step; go_step; go_step; refine bodyPost_ret (x4 (t := 64) (u := 53) rfl _ _ b_r4 b_e5 rfl rfl r4 (xI e5) isAgg64 (by kernel_rfl)) rfl ?_)
 exact ⟨rfl, B⟩
theorem Jt (v vs : Value) (s : jb) (ls ks : List TA) (E : Int) (w : World) (lm : xN w) (h : RS v ls w) (tk : qQ ls) (hn : ls.length ≤ maxLen) (rs : xh jf vs s.pts w) (hn2 : s.pts.length ≤ 17592186044416) (hcol : s.col.ok) (e : jF s ls = (ks, E)) : Calls Tryz.prog 30 #[.agg #[v], .agg (jg vs s)] w fun e w' => ∃ a cp, e = .returned (.tuple #[.agg #[.slice a ks.length cp], .int .i64 E]) ∧ RS (.slice a ks.length cp) ks w' ∧ Below w.heap.size w w' := by
 cases hv : jT s with
 | true =>
  have := Wj v vs s ls w lm h tk hn rs hv hcol; rw [e] at this; exact this
 | false =>
  have e1 : jF s ls = ([], 1) := if_neg (by rw [hv]; simp)
  rw [e1] at e
  injection e with e1 e2
  subst e1 e2; exact (Wh v vs s ls w h rs hn2 hv).mono fun e w' ⟨h1, h2⟩ => ⟨none, 0, h1, RS.nil _, h2⟩
theorem zhf (v : Value) (ls : List TA) (x y : Int) (p : Px) (w : World) (h : RS v ls w) (hn : ls.length ≤ maxLen) (hx : -9223372036854775808 ≤ x ∧ x ≤ 9223372036854775807) (hy : -9223372036854775808 ≤ y ∧ y ≤ 9223372036854775807) (e : xJ ls x y = p) : Calls Tryz.prog 93 #[.agg #[v], .int .i64 x, .int .i64 y] w fun e w' => e = .returned (.agg (yq.enc p)) ∧ Below w.heap.size w w' := e ▸ zhg v ls x y w h hn (vS hx.1 hx.2) (vS hy.1 hy.2)
theorem zfI (q r : Px) (c : Int) (w : World) (hq : q.ok) (e : uj q c = r) : Calls Tryz.prog 95 #[.agg (yq.enc q), .int .i64 c] w fun e w' => e = .returned (.agg (yq.enc r)) ∧ Below w.heap.size w w' := e ▸ zhe q c w hq
theorem zfK (q p r : Px) (m c : Int) (w : World) (hq : q.ok) (hp : p.ok) (e : vP q p m c = r) : Calls Tryz.prog 96 #[.agg (yq.enc q), .agg (yq.enc p), .int .i64 m, .int .i64 c] w fun e w' => e = .returned (.agg (yq.enc r)) ∧ Below w.heap.size w w' := e ▸ zhh q p m c w hq hp
theorem zbC (d : Db) (q : Rc) (w : World) (h : Wc d) (e : kZ d = q) : Calls Tryz.prog 64 #[.agg (kA.enc d)] w fun e w' => e = .returned (.agg (jP q)) ∧ Below w.heap.size w w' := by
 obtain ⟨o1, o2, o3, o4, o5, o6⟩ := h
 exact zdB d q w (by omega) (by omega) (by omega) e
theorem zik (v : Value) (ls ks : List TA) (w : World) (h : RS v ls w) (tk : qQ ls) (hn : ls.length ≤ maxLen) (e : qh ls = ks) : Calls Tryz.prog 92 #[.agg #[v]] w fun e w' => ∃ a c, e = .returned (.agg #[.slice a ks.length c]) ∧ RS (.slice a ks.length c) ks w' ∧ Below w.heap.size w w' := by
 subst e
 obtain ⟨a, c, hT⟩ := zbA v ls w h tk hn
 refine (hT w (Below.refl _ _)).1.mono fun e w' ⟨h1, h2⟩ => ⟨a, c, h1, (hT w' h2).2, h2⟩
def JV (c : Rc) (F : Int → Int → Px) (k : Nat) : List Px := (List.range k).map fun j => F (um c j) (un c j)
theorem zd8 (c : Rc) (F : Int → Int → Px) (k : Nat) : (JV c F k).length = k := by unfold JV; rw [List.length_map, List.length_range]
theorem zbY (c : Rc) (F : Int → Int → Px) (k : Nat) : JV c F (k + 1) = JV c F k ++ [F (um c k) (un c k)] := by
 unfold JV
 rw [List.range_succ, List.map_append]
 rfl
theorem zd7 (c : Rc) (F : Int → Int → Px) : JV c F (areaN c) = kE c F := rfl
theorem zf7 {c : Rc} (hf : xM c) (F : Int → Int → Px) {i j : Nat} (hj : (j : Int) < c.x1 - c.x0) (hi : (i : Int) < c.y1 - c.y0) : i * widN c + j < areaN c ∧ JV c F (i * widN c + j + 1) = JV c F (i * widN c + j) ++ [F (c.x0 + j) (c.y0 + i)] := by
 obtain ⟨k, e, hk, ex, ey⟩ := za8 hf hj hi
 have hw : c.x1 - c.x0 = (widN c : Int) := by unfold widN; have := hf.h1; omega
 have ek : k = i * widN c + j := by
  rw [hw] at e; omega
 subst ek
 refine ⟨hk, ?_⟩
 rw [zbY, ex, ey]
theorem zee (s : jb) (L : List Db) (ls : List TA) {k : Nat} {d : Db} (h : L[k]? = some d) : xw s (L.take (k + 1)) ls = xR s (xw s (L.take k) ls) d := by
 rw [List.take_add_one, h]
 exact XT s _ d ls
theorem zb2 (s : jb) (L : List Db) (ls : List TA) (k : Nat) {M : List TA} {E : Int} (h : xw s (L.take k) ls = (M, E)) (hE : E ≠ 0) : xw s L ls = ([], E) := by
 have e2 : xw s L ls = xw s (L.take k) ls := by
  conv => lhs; rw [← List.take_append_drop k L]
  unfold xw at *; rw [List.foldl_append]; exact Jh s _ (by rw [h]; exact hE)
 rw [e2]
 exact Prod.ext (Qy s _ ls (by rw [h]; exact hE)) (by rw [h])
theorem zb3 (d : Db) (h : z8 (Qk d) = true) : Qk d = Rc.zero := by
 unfold Qk y4 at h ⊢
 rw [QL] at h
 unfold kR
 rw [h]
 rfl
theorem Wp (v vs : Value) (s : jb) (ls : List TA) (w : World) (h : RS v ls w) (rs : xh jf vs s.pts w) (hn : s.pts.length ≤ 17592186044416) (hv : jT s = false) : Calls Tryz.prog 38 #[.agg #[v], .agg (jg vs s)] w fun e w' => e = .returned (.agg #[.slice none 0 0, .int .i64 1]) ∧ Below w.heap.size w w' := by
 have B := Below.refl w.heap.size w
 have HV0 := zo hv
 obtain ⟨ad, cd, rfl, hcd⟩ := rs.len
 obtain ⟨a, c, rfl, hc⟩ := h.len
 clear hv h
 go_enter func38, ntmps38
 go_upto_region 0 with fail
 refine wp_region_lit ?_
 (refine jd (t := 64) B ?_; clear B; intro b_r2 wn zb zd r2 za zf zk B; replace rs := rs.be za)
 (refine jd (t := 30) B ?_; clear B; intro b_r3 wn zb zd r3 za zf zk B; replace rs := rs.be za)
 (refine jH (t := 82) (qJ _ _ rfl) B ?_; clear B; intro b_r4 wn zb zd r4 za zf zk B; replace r3 := r3.be za; replace rs := rs.be za)
 refine wpList_nil ?_
 go_upto_region 1 with fail
 refine qz 1 ?_
 refine qe B (zE func17) (c := wo _ s false _ rs hn HV0.out) ?_
 clear B
 intro wn za zf zg B
 replace r4 := r4.be za
 refine z7 1 ?_
 go_upto_region 2 with fail
 refine zS 2 ?_
 go_upto_region 3 with fail
 refine wp_region_lit ?_
 (refine qH rfl (.agg #[.slice none 0 0, .int .i64 1]) (by kernel_rfl) ?_; simp only [zn])
 (refine qZ r4 B ?_; clear r4 B; intro wn r4 ze zf zg B)
 refine wpList_nil ?_
 first | (refine qO r4 ?_) | (go_step; refine qO r4 ?_) | (go_step; go_step; refine qO r4 ?_) | (go_step; go_step; go_step; refine qO r4 ?_) | (go_step; go_step; go_step; go_step; refine qO r4 ?_) | (go_step; go_step; go_step; go_step; go_step; refine qO r4 ?_)
 exact ⟨rfl, B⟩
theorem Wq (v vs : Value) (s : jb) (ls : List TA) (w : World) (h : RS v ls w) (tk : qQ ls) (hn : ls.length ≤ maxLen) (rs : xh jf vs s.pts w) (hv : jT s = true) (hcol : s.col.ok) : Calls Tryz.prog 38 #[.agg #[v], .agg (jg vs s)] w fun e w' => ∃ a cp, e = .returned (.agg #[.slice a (jF s ls).1.length cp, .int .i64 (jF s ls).2]) ∧ RS (.slice a (jF s ls).1.length cp) (jF s ls).1 w' ∧ Below w.heap.size w w' := by
 have B := Below.refl w.heap.size w
 have HV0 := zo hv
 have HVS := zo ((xq s).1 hv)
 have HCOL := zo hcol
 have hl1 := HVS.out.l1
 have hl2 := HVS.out.l2
 have hn2 : s.pts.length ≤ 17592186044416 := by omega
 obtain ⟨L, hL⟩ : ∃ l, yY s = l := ⟨_, rfl⟩
 have hLF : xS s = L := by rw [← hL]; unfold yY; rw [hv]; rfl
 obtain ⟨L0, hL0⟩ : ∃ l, qh ls = l := ⟨_, rfl⟩
 have HFIN := zo (show jF s ls = xw s L L0 from by rw [← hLF, ← hL0]; exact if_pos hv)
 have HOKD := zo (show ∀ d ∈ L, Wc d from by rw [← hLF]; exact K6 HVS.out)
 have hLn : L.length ≤ 1024 := by rw [← hLF, Qu]; exact JN HVS.out
 have HL := zo hL
 have HL0 := zo hL0
 have TF := zo (show qQ L0 from hL0 ▸ yk tk)
 have VF := zo (show ql L0 = true from hL0 ▸ jB ls)
 have TK := zo tk
 obtain ⟨ad, cd, rfl, hcd⟩ := rs.len
 obtain ⟨a, c, rfl, hc⟩ := h.len
 have rs1 := h
 have RSW := zo rs
 clear hv hcol hL hLF hL0 h tk rs
 go_enter func38, ntmps38
 go_upto_region 0 with fail
 refine wp_region_lit ?_
 (refine jd (t := 64) B ?_; clear B; intro b_r2 wn zb zd r2 za zf zk B; replace rs1 := rs1.be za)
 (refine jd (t := 30) B ?_; clear B; intro b_r3 wn zb zd r3 za zf zk B; replace r2 := r2.be za; replace rs1 := rs1.be za)
 (refine jH (t := 82) (qJ _ _ rfl) B ?_; clear B; intro b_r4 wn zb zd r4 za zf zk B; replace r2 := r2.be za; replace r3 := r3.be za; replace rs1 := rs1.be za)
 refine wpList_nil ?_
 have k2 : w.heap.size ≤ b_r2 := by omega
 have k3 : b_r2 < b_r3 := by have := r2.lt; omega
 have k4 : b_r3 < b_r4 := by have := r3.lt; omega
 go_upto_region 1 with fail
 refine qz 1 ?_
 refine qe B (zE func17) (c := wo _ s true _ (RSW.out.be B) hn2 HV0.out) ?_
 clear B
 intro wn za zf zg B
 replace r2 := r2.be za
 replace r3 := r3.be za
 replace r4 := r4.be za
 replace rs1 := rs1.be za
 refine z7 1 ?_
 go_upto_region 2 with fail
 refine zS 2 ?_
 go_upto_region 4 with fail
 refine qz 1 ?_
 refine xz (zE func92) (c := zik _ ls L0 _ rs1 TK.out hn HL0.out) (h := ?_)
 rintro e wn ⟨a1, c1, rfl, rs2, za⟩
 obtain ⟨zf, zg, B⟩ := zM B za
 replace r2 := r2.be za
 replace r3 := r3.be za
 replace r4 := r4.be za
 clear rs1
 refine ⟨_, rfl, ?_⟩
 simp only [zn]
 (refine qZ r2 B ?_; have r2o := r2; clear r2 B; intro wn r2 ze zf zg B; replace rs2 := rs2.chg r2o (by simp) ze; replace r3 := r3.cg ze; replace r4 := r4.cg ze)
 refine wpList_nil ?_
 obtain ⟨b0, hb0⟩ : ∃ b0, b0 = wn.heap.size := ⟨_, rfl⟩
 have k5 : b_r4 < b0 := by have := r4.lt; omega
 have HB0 := zo hb0
 clear hb0
 go_upto_region 5 with fail
 refine qz 1 ?_
 refine xz (zE func20) (c := ZS _ s L _ (RSW.out.be B) hn2 HL.out) (h := ?_)
 rintro e wn ⟨al, cl, rfl, od, za⟩
 obtain ⟨zf, zg, B⟩ := zM B za
 replace r2 := r2.be za
 replace r3 := r3.be za
 replace r4 := r4.be za
 replace rs2 := rs2.be za
 rw [← HB0.out] at od
 refine ⟨_, rfl, ?_⟩
 simp only [zn]
 refine z7 1 ?_
 have k6 : b0 ≤ wn.heap.size := by have := HB0.out; omega
 clear HB0 RSW HV0 HL0 HL TK
 go_upto_region 6 with fail
 refine zS 1 ?_
 go_wp2
 go_loopw [7, 8, 9, 10, 11, 12, 13, 14] (fun iv _ _ _ _ _ _ _ wr => ∃ (k : Nat) (a1 : Option Addr) (c1 : Nat) (M : List TA), k ≤ L.length ∧ iv = .int .i64 (k : Int) ∧ Hid (xw s (L.take k) L0 = (M, 0)) ∧ Below w.heap.size w wr ∧ b0 ≤ wr.heap.size ∧ zw 30 wr b_r3 (jg (.slice ad s.pts.length cd) s) ∧ zw 82 wr b_r4 #[.slice none 0 0, .int .i64 0] ∧ qM kA b0 (.slice al L.length cl) L wr ∧ zw 64 wr b_r2 #[.slice a1 M.length c1] ∧ RS (.slice a1 M.length c1) M wr) (fun iv _ _ _ _ _ _ _ _ => (L.length - intOf iv).toNat)
 case atStart => exact ⟨0, a1, c1, L0, by omega, rfl, zo rfl, B, k6, r3, r4, od, r2, rs2⟩
 case round =>
  clear B k6 r3 r4 od r2 rs2; obtain ⟨k, a1, c1, M, hk, rfl, HM, B, k6, r3, r4, od, r2, rs1⟩ := hrel; by_cases hkl : k < L.length
  ·have q1 : decide ((k : Int) < (L.length : Int)) = true := zQ (by omega)
   have q2 : decide (k < L.length) = true := zQ hkl; obtain ⟨g, o, rfl, pc⟩ := od.rs.at (by omega); have hp := ZY hkl; have OKD := zo (HOKD.out _ (List.mem_of_getElem? hp)); have hst := zee s L L0 hp; have hval := wW HCOL.out (L.take k) VF.out TF.out; rw [HM.out] at hst hval; have VM := zo hval.1; have TM := zo hval.2; have hMn := (xp.1 hval.1).1
   dsimp only at hMn
   have hMx : M.length ≤ maxLen := by unfold maxLen; omega
   have HST := zo hst; clear hst hval HM
   generalize hx1 : zbK L k = x1 at *
   clear hx1; obtain ⟨o1, o2, o3, o4, o5, o6⟩ := OKD.out; go_upto_region 7 with fail
   refine qz 2 ?_; refine j1 underlying35 ?_; refine z7 1 ?_; obtain ⟨wR, hwR⟩ : ∃ z, z = wr := ⟨_, rfl⟩; subst hwR; have BW := B; have hws := B.size; have HOD := zo od; have RS1 := zo rs1; have B := Below.refl wR.heap.size wR; have hgb : b0 ≤ g := (World.ownsRow.lt od g rfl).1; have hpcl := pc.lt; have hr2l := r2.lt; have hr3l := r3.lt; have hr4l := r4.lt; clear od rs1; go_upto_region 9 with fail
   by_cases hr0 : x1.r = 0
   ·have q3 : (x1.r == 0) = true := by simpa using hr0
    have HN := zo (show xw s (L.take (k + 1)) L0 = (M, 0) from by rw [HST.out]; exact vt s _ (by unfold Kq; rw [decide_eq_true (show x1.r < 1 by omega)]; rfl))
    refine wp_region_lit ?_; refine jD 6 ?_; repeat (first | go_big_quiet_skip | (go_big_quiet_want; first | ((first | refine zq (fun w hw => qt (zdN (qD pc w hw) hp)) ?_ | refine qB ?_ | refine qC ?_); simp only [zn]; go_big_quiet_on) | (go_big_quiet_op; go_big_quiet_on)))
    refine wpQuiet_nil ?_; refine wpList_nil ?_; go_upto_region 8 with fail
    refine zS 3 ?_; go_wp2; go_roundw
    case rel => exact ⟨k + 1, a1, c1, M, by omega, by go_num, HN, BW.trans (B.mono hws), Nat.le_trans k6 B.size, r3, r4, HOD.out.be B, r2, RS1.out.be B⟩
    case measure => simp [intOf]; omega
   ·have q3 : (x1.r == 0) = false := by simpa using hr0
    have q4 : decide (x1.r < 1) = false := zB (by omega); refine wp_region_lit ?_; refine jD 6 ?_; repeat (first | go_big_quiet_skip | (go_big_quiet_want; first | ((first | refine zq (fun w hw => qt (zdN (qD pc w hw) hp)) ?_ | refine qB ?_ | refine qC ?_); simp only [zn]; go_big_quiet_on) | (go_big_quiet_op; go_big_quiet_on)))
    refine wpQuiet_nil ?_; refine wpList_nil ?_; obtain ⟨qs, hqs⟩ : ∃ q, kZ x1 = q := ⟨_, rfl⟩; obtain ⟨c, hcc⟩ : ∃ q, Qk x1 = q := ⟨_, rfl⟩; have HQS := zo hqs; have HC0 := zo hcc; have HC := zo (show y4 qs Q5 = c from by rw [← hqs, ← hcc]; rfl)
    clear hqs hcc; go_upto_region 10 with fail
    refine wp_region_lit ?_; refine jD 4 ?_; repeat (first | go_big_quiet_skip | (go_big_quiet_want; first | ((first | refine zq (fun w hw => (qD pc w hw).load isAgg45 hp) ?_ | refine qB ?_ | refine qC ?_); simp only [zn]; go_big_quiet_on) | (go_big_quiet_op; go_big_quiet_on)))
    refine wpQuiet_nil ?_; refine qe B (zE func64) (c := zbC x1 qs _ OKD.out HQS.out) ?_; clear B; intro wn za zf zg B
    replace r2 := r2.be za
    replace r3 := r3.be za
    replace r4 := r4.be za
    replace pc := pc.be za; refine qe B (zE func66) (c := zdz _) ?_; clear B; intro wn za zf zg B
    replace r2 := r2.be za
    replace r3 := r3.be za
    replace r4 := r4.be za
    replace pc := pc.be za; refine qe B (zE func65) (c := zdt qs Q5 c _ HC.out) ?_; clear B; intro wn za zf zg B
    replace r2 := r2.be za
    replace r3 := r3.be za
    replace r4 := r4.be za
    replace pc := pc.be za
    (refine jH (t := 38) (zN _ _ rfl) B ?_; clear B; intro b_c8 wn zb zd c8 za zf zk B; replace r2 := r2.be za; replace r3 := r3.be za; replace r4 := r4.be za; replace pc := pc.be za)
    (refine qZ (hone := (by simp [jP, Value.oneCell'])) c8 B ?_; clear c8 B; intro wn c8 ze zf zg B; replace r2 := r2.cg ze; replace r3 := r3.cg ze; replace r4 := r4.cg ze; replace pc := pc.cg ze)
    refine wpList_nil ?_; replace c8 : zw 38 _ b_c8 (jP c) := c8; have k8 : wR.heap.size ≤ b_c8 := by omega
    have hc8l := c8.lt; go_upto_region 11 with fail
    refine wp_region_lit ?_; refine jD 2 ?_
    repeat (first | go_big_quiet_skip | (go_big_quiet_want; first | ((first | refine XC rfl c rfl ?_ | refine qB ?_ | refine qC ?_); simp only [zn]; go_big_quiet_on) | (go_big_quiet_op; go_big_quiet_on)))
    refine wpQuiet_nil ?_
    (refine jH (t := 117) (ym _ _ rfl) B ?_; clear B; intro b_i9 wn zb zd i9 za zf zk B; replace r2 := r2.be za; replace r3 := r3.be za; replace r4 := r4.be za; replace pc := pc.be za; replace c8 := c8.be za)
    (refine qZ (hone := (by simp [jy, Value.oneCell'])) i9 B ?_; clear i9 B; intro wn i9 ze zf zg B; replace r2 := r2.cg ze; replace r3 := r3.cg ze; replace r4 := r4.cg ze; replace pc := pc.cg ze; replace c8 := c8.cg ze)
    refine wpList_nil ?_; replace i9 : zw 117 _ b_i9 (jy c (.slice none 0 0)) := i9; have k9 : b_c8 < b_i9 := by omega
    have hi9l := i9.lt; obtain ⟨b1, hb1⟩ : ∃ n, n = wn.heap.size := ⟨_, rfl⟩; have k10 : b_i9 < b1 := by omega
    have k11 : b1 ≤ wn.heap.size := by omega
    have k12 : g < b1 := by omega
    have oi : qM yq b1 (.slice none 0 0) [] wn := qM.nil b1 wn; clear hb1 hi9l hc8l; go_upto_region 12 with fail
    refine zS 3 ?_; go_wp2; cases hem : z8 c with
    | true =>
     have hcz : c = Rc.zero := by rw [← HC0.out]; exact zb3 x1 (by rw [HC0.out]; exact hem)
     have HN := zo (show xw s (L.take (k + 1)) L0 = (M, 0) from by rw [HST.out]; exact vt s _ (by unfold Kq; rw [HC0.out, hem]; simp))
     have hy0 : c.y0 = 0 := by rw [hcz]; rfl
     have hy1 : c.y1 = 0 := by rw [hcz]; rfl
     have q5 : decide ((0 : Int) < c.y1) = false := zB (by omega); clear hcz hem; go_loopw [10, 11, 12, 13] (fun yv _ _ _ wi => yv = .int .i64 0 ∧ Below wR.heap.size wR wi ∧ zw 38 wi b_c8 (jP c) ∧ zw 117 wi b_i9 (jy c (.slice none 0 0)) ∧ zw 64 wi b_r2 #[.slice a1 M.length c1] ∧ zw 30 wi b_r3 (jg (.slice ad s.pts.length cd) s) ∧ zw 82 wi b_r4 #[.slice none 0 0, .int .i64 0]) (fun _ _ _ _ _ => 0)
     case atStart => exact ⟨by rw [hy0], B, c8, i9, r2, r3, r4⟩
     case round =>
      clear B c8 i9 r2 r3 r4 pc oi k11; obtain ⟨rfl, B, c8, i9, r2, r3, r4⟩ := hrel; go_upto_region 13 with fail
      refine zS 4 ?_; go_upto_region 25 with fail
      refine wp_region_lit ?_; refine jD 2 ?_; repeat (first | go_big_quiet_skip | (go_big_quiet_want; first | ((first | refine zq (fun w hw => qL (xQ (zY i9 w hw))) ?_ | refine qB ?_ | refine qC ?_); simp only [zn]; go_big_quiet_on) | (go_big_quiet_op; go_big_quiet_on)))
      refine wpQuiet_nil ?_; refine j1 underlying115 ?_; refine z7 1 ?_; go_upto_region 8 with fail
      refine zS 3 ?_; go_wp2; go_roundw
      case rel => exact ⟨k + 1, a1, c1, M, by omega, by go_num, HN, BW.trans (B.mono hws), Nat.le_trans k6 B.size, r3, r4, HOD.out.be B, r2, RS1.out.be B⟩
      case measure => simp [intOf]; omega
    | false =>
     have HSK : Kq x1 = false := by unfold Kq; rw [HC0.out, hem, q4]; rfl
     clear hem; obtain ⟨HE1, HF1⟩ := Jn OKD.out HSK; rw [HC0.out] at HE1 HF1; have HIL : kX s x1 M = kE c (fun x y => ux s (kP x1 x y) (xJ M x y)) := by unfold kX; rw [HC0.out]
     have okI : Ks (kX s x1 M) := YP HCOL.out x1 TM.out; have hIn : (kX s x1 M).length = areaN c := by rw [Z2, HC0.out]
     have hst2 : xw s (L.take (k + 1)) L0 = (y7 c (kX s x1 M) M, vX c (kX s x1 M) M) := by rw [HST.out, Jg s HSK, HC0.out]
     obtain ⟨I, hI⟩ : ∃ l, kX s x1 M = l := ⟨_, rfl⟩; rw [hI] at HIL okI hIn hst2; obtain ⟨R', hR'⟩ : ∃ l, y7 c I M = l := ⟨_, rfl⟩; obtain ⟨E, hE⟩ : ∃ e, vX c I M = e := ⟨_, rfl⟩; rw [hR', hE] at hst2; have HS2 := zo hst2; have HR' := zo hR'; have HEe := zo hE; have HI := zo HIL; have OKI := zo okI; have HIN := zo hIn; have HFit := zo HF1; have HA := zo (wU HF1); have HAW := zo (xX HF1).1; clear hst2 hR' hE HIL okI hIn hI HE1 HSK HST; obtain ⟨f1, f2, f3, f4, f5, f6', f7, f8⟩ := HF1; have hwid : (widN c : Int) = c.x1 - c.x0 := by unfold widN; omega
     obtain ⟨Wd, hWd⟩ : ∃ n, widN c = n := ⟨_, rfl⟩; rw [hWd] at hwid; have HWD := zo hWd; clear hWd; go_loopw [10, 11, 12, 13] (fun yv _ _ _ wi => ∃ (i : Nat) (ai : Option Addr) (ci : Nat) (P : List Px), (i : Int) ≤ c.y1 - c.y0 ∧ yv = .int .i64 (c.y0 + (i : Int)) ∧ Hid (JV c (fun x y => ux s (kP x1 x y) (xJ M x y)) (i * Wd) = P) ∧ Below wR.heap.size wR wi ∧ b1 ≤ wi.heap.size ∧ zw 38 wi b_c8 (jP c) ∧ zw 117 wi b_i9 (jy c (.slice ai P.length ci)) ∧ zw 64 wi b_r2 #[.slice a1 M.length c1] ∧ zw 30 wi b_r3 (jg (.slice ad s.pts.length cd) s) ∧ zw 82 wi b_r4 #[.slice none 0 0, .int .i64 0] ∧ zH kA g o L wi ∧ qM yq b1 (.slice ai P.length ci) P wi) (fun yv _ _ _ _ => (c.y1 - intOf yv).toNat)
     case atStart => exact ⟨0, none, 0, [], by omega, by rw [Int.natCast_zero, Int.add_zero], zo (by rw [Nat.zero_mul]; rfl), B, k11, c8, i9, r2, r3, r4, pc, oi⟩
     case round =>
      clear B k11 c8 i9 r2 r3 r4 pc oi; obtain ⟨i, ai, ci, P, hi, rfl, HP0, B, k11, c8, i9, r2, r3, r4, pc, oi⟩ := hrel; by_cases hi1 : (i : Int) < c.y1 - c.y0
      ·have q5 : decide (c.y0 + (i : Int) < c.y1) = true := zQ (by omega)
       go_upto_region 13 with fail
       refine zS 4 ?_; go_upto_region 15 with fail
       refine zS 3 ?_; go_wp2; go_loopw [11, 12, 13] (fun xv _ _ wj => ∃ (j : Nat) (ai : Option Addr) (ci : Nat) (P : List Px), (j : Int) ≤ c.x1 - c.x0 ∧ xv = .int .i64 (c.x0 + (j : Int)) ∧ Hid (JV c (fun x y => ux s (kP x1 x y) (xJ M x y)) (i * Wd + j) = P) ∧ Below wR.heap.size wR wj ∧ b1 ≤ wj.heap.size ∧ zw 38 wj b_c8 (jP c) ∧ zw 117 wj b_i9 (jy c (.slice ai P.length ci)) ∧ zw 64 wj b_r2 #[.slice a1 M.length c1] ∧ zw 30 wj b_r3 (jg (.slice ad s.pts.length cd) s) ∧ zw 82 wj b_r4 #[.slice none 0 0, .int .i64 0] ∧ zH kA g o L wj ∧ qM yq b1 (.slice ai P.length ci) P wj) (fun xv _ _ _ => (c.x1 - intOf xv).toNat)
       case atStart => exact ⟨0, ai, ci, P, by omega, by rw [Int.natCast_zero, Int.add_zero], zo HP0.out, B, k11, c8, i9, r2, r3, r4, pc, oi⟩
       case round =>
        clear B k11 c8 i9 r2 r3 r4 pc oi HP0; obtain ⟨j, ai, ci, P, hj, rfl, HP0, B, k11, c8, i9, r2, r3, r4, pc, oi⟩ := hrel; obtain ⟨wJ, hwJ⟩ : ∃ z, z = wr := ⟨_, rfl⟩; subst hwJ; by_cases hj1 : (j : Int) < c.x1 - c.x0
        ·have q6 : decide (c.x0 + (j : Int) < c.x1) = true := zQ (by omega)
         have hat := zf7 HFit.out (fun x y => ux s (kP x1 x y) (xJ M x y)) (i := i) (j := j) hj1 hi1; rw [HWD.out, HP0.out] at hat; have hPn : P.length < 65536 := by rw [← HP0.out, zd8]; have := HA.out; omega
         have okp : (xJ M (c.x0 + (j : Int)) (c.y0 + (i : Int))).ok := yJ TM.out _ _ _ (by omega); obtain ⟨p, hpe⟩ : ∃ p, xJ M (c.x0 + (j : Int)) (c.y0 + (i : Int)) = p := ⟨_, rfl⟩; obtain ⟨n, hn0⟩ : ∃ n, kP x1 (c.x0 + (j : Int)) (c.y0 + (i : Int)) = n := ⟨_, rfl⟩; have hnb := zaA x1 (c.x0 + (j : Int)) (c.y0 + (i : Int)); obtain ⟨q, hq⟩ : ∃ q, ux s n p = q := ⟨_, rfl⟩; have hst := hat.2; rw [hpe] at hst okp; rw [hn0] at hst hnb; rw [hq] at hst; have HPE := zo hpe; have HN := zo hn0; have OKP := zo okp; have HQ := zo hq; have HAT := zo hst; clear hat hpe hn0 okp hq hst; go_upto_region 16 with fail
         refine zS 4 ?_; have rs1 := RS1.out.be B; have HOI := zo oi; have BI := B; have hwj := BI.size; have B := Below.refl wJ.heap.size wJ; have hl8 := c8.lt; have hl9 := i9.lt; have hl2 := r2.lt; have hl3 := r3.lt; have hl4 := r4.lt; have hlg := pc.lt; clear oi; go_upto_region 18 with fail
         refine qz 3 ?_
         refine qe B (zE func93) (c := zhf _ M (c.x0 + (j : Int)) (c.y0 + (i : Int)) p _ rs1 hMx (by omega) (by omega) HPE.out) ?_; clear B; intro wn za zf zg B
         replace c8 := c8.be za
         replace i9 := i9.be za
         replace r2 := r2.be za
         replace r3 := r3.be za
         replace r4 := r4.be za
         replace pc := pc.be za
         clear rs1
         (refine jH (t := 28) (vZ _ _ rfl) B ?_; clear B; intro b_t12 wn zb zd t12 za zf zk B; replace c8 := c8.be za; replace i9 := i9.be za; replace r2 := r2.be za; replace r3 := r3.be za; replace r4 := r4.be za; replace pc := pc.be za)
         (refine qZ (hone := (by simp [yq, WY, Value.oneCell'])) t12 B ?_; clear t12 B; intro wn t12 ze zf zg B; replace c8 := c8.cg ze; replace i9 := i9.cg ze; replace r2 := r2.cg ze; replace r3 := r3.cg ze; replace r4 := r4.cg ze; replace pc := pc.cg ze)
         refine wpList_nil ?_; replace t12 : zw 28 _ b_t12 (yq.enc p) := t12; have k13 : wJ.heap.size ≤ b_t12 := by omega
         go_upto_region 19 with fail
         refine wp_region_lit ?_; refine jD 6 ?_; repeat (first | go_big_quiet_skip | (go_big_quiet_want; first | ((first | refine zq (fun w hw => (qD pc w hw).load isAgg45 hp) ?_ | refine qB ?_ | refine qC ?_); simp only [zn]; go_big_quiet_on) | (go_big_quiet_op; go_big_quiet_on)))
         refine wpQuiet_nil ?_; refine qe B (zE func94) (c := zfG x1 (c.x0 + (j : Int)) (c.y0 + (i : Int)) n _ HN.out) ?_; clear B; intro wn za zf zg B
         replace c8 := c8.be za
         replace i9 := i9.be za
         replace r2 := r2.be za
         replace r3 := r3.be za
         replace r4 := r4.be za
         replace pc := pc.be za
         replace t12 := t12.be za; refine z7 1 ?_; by_cases hn0 : 0 < n
         ·have q7 : decide (0 < n) = true := zQ hn0
          have q7' : decide (n > 0) = true := zQ hn0; cases hera : s.era with
          | true =>
           have HQ2 := zo (show uj p (255 - n) = q from by rw [← HQ.out]; unfold ux; rw [if_pos hn0, if_pos hera])
           go_upto_region 20 with fail
           refine zS 6 ?_; rw [hera]; clear hera; go_upto_region 21 with fail
           refine qz 3 ?_
           refine qe B (zE func95) (c := zfI p q (255 - n) _ OKP.out HQ2.out) ?_; clear B; intro wn za zf zg B
           replace c8 := c8.be za
           replace i9 := i9.be za
           replace r2 := r2.be za
           replace r3 := r3.be za
           replace r4 := r4.be za
           replace pc := pc.be za
           replace t12 := t12.be za
           (refine qZ (hone := (by simp [yq, WY, Value.oneCell'])) t12 B ?_; clear t12 B; intro wn t12 ze zf zg B; replace c8 := c8.cg ze; replace i9 := i9.cg ze; replace r2 := r2.cg ze; replace r3 := r3.cg ze; replace r4 := r4.cg ze; replace pc := pc.cg ze)
           refine wpList_nil ?_; replace t12 : zw 28 _ b_t12 (yq.enc q) := t12; have oi := HOI.out.be B; have k14 : b1 ≤ wn.heap.size := Nat.le_trans k11 B.size; have B2 := BI.trans (B.mono hwj); clear B BI HOI; have B := B2; clear B2; go_upto_region 24 with fail
           refine wp_region_lit ?_; refine jD 3 ?_
           repeat (first | go_big_quiet_skip | (go_big_quiet_want; first | ((first | refine zq (fun w hw => qL (xQ (zY i9 w hw))) ?_ | refine qB ?_ | refine qC ?_); simp only [zn]; go_big_quiet_on) | (go_big_quiet_op; go_big_quiet_on)))
           refine wpQuiet_nil ?_
           (refine yd (E := yq) rfl _ rfl (q) rfl (by omega) (kn B ?_); clear B; intro b_s1 wn zb zd s1 za zf zk B; replace oi := oi.be (za.mono zb); replace c8 := c8.be (za.mono zb); replace i9 := i9.be (za.mono zb); replace r2 := r2.be (za.mono zb); replace r3 := r3.be (za.mono zb); replace r4 := r4.be (za.mono zb); replace pc := pc.be (za.mono zb); simp only [zn])
           (at_builtin; refine jA rfl _ _ rfl _ _ rfl rfl oi ((xh.one s1)) (by simp only [List.length_append, List.length_cons, List.length_nil]; omega) (by omega) ?_; intro v_oi wn ht za; have zf := B.size; have hbz := za.size; replace B := B.trans (za.mono (by omega)); clear oi; replace c8 := c8.of_eq (za.block _ (by omega)); replace i9 := i9.of_eq (za.block _ (by omega)); replace r2 := r2.of_eq (za.block _ (by omega)); replace r3 := r3.of_eq (za.block _ (by omega)); replace r4 := r4.of_eq (za.block _ (by omega)); replace pc := pc.of_eq (za.block _ (by omega)); have oi := ht; clear ht; obtain ⟨a_oi, c_oi, hv, hco⟩ := oi.len; (try simp only [List.length_append, List.length_cons, List.length_nil, Nat.zero_add] at hv hco); subst hv; simp only [zn])
           refine jL 1 ?_
           (refine we rfl _ _ rfl _ rfl _ _ _ rfl i9 (xV B (by omega) ?_); clear i9 B; intro wn i9 ze zf zg B; replace c8 := c8.cg ze; replace r2 := r2.cg ze; replace r3 := r3.cg ze; replace r4 := r4.cg ze; replace pc := pc.cg ze; replace oi := oi.chg ze (by omega); simp only [zn])
           refine wpList_nil ?_; go_upto_region 17 with fail
           refine zS 3 ?_; go_wp2; go_roundw
           case rel => exact ⟨j + 1, _, _, P ++ [q], by omega, by go_num, HAT, B, by omega, c8, by rw [List.length_append]; exact i9, r2, r3, r4, pc, by rw [List.length_append]; exact oi⟩
           case measure => simp [intOf]; omega
          | false =>
           have HQ2 := zo (show vP p s.col 0 n = q from by rw [← HQ.out]; unfold ux; rw [if_pos hn0, if_neg (by rw [hera]; simp)])
           go_upto_region 20 with fail
           refine zS 6 ?_; rw [hera]; clear hera; go_upto_region 22 with fail
           refine zS 2 ?_; go_upto_region 23 with fail
           refine wp_region_lit ?_; refine jD 4 ?_
           repeat (first | go_big_quiet_skip | (go_big_quiet_want; first | ((first | refine zq (fun w hw => xy (zY r3 w hw)) ?_ | refine qB ?_ | refine qC ?_); simp only [zn]; go_big_quiet_on) | (go_big_quiet_op; go_big_quiet_on)))
           refine wpQuiet_nil ?_; refine qe B (zE func96) (c := zfK p s.col q 0 n _ OKP.out HCOL.out HQ2.out) ?_; clear B; intro wn za zf zg B
           replace c8 := c8.be za
           replace i9 := i9.be za
           replace r2 := r2.be za
           replace r3 := r3.be za
           replace r4 := r4.be za
           replace pc := pc.be za
           replace t12 := t12.be za
           (refine qZ (hone := (by simp [yq, WY, Value.oneCell'])) t12 B ?_; clear t12 B; intro wn t12 ze zf zg B; replace c8 := c8.cg ze; replace i9 := i9.cg ze; replace r2 := r2.cg ze; replace r3 := r3.cg ze; replace r4 := r4.cg ze; replace pc := pc.cg ze)
           refine wpList_nil ?_; replace t12 : zw 28 _ b_t12 (yq.enc q) := t12; have oi := HOI.out.be B; have k14 : b1 ≤ wn.heap.size := Nat.le_trans k11 B.size; have B2 := BI.trans (B.mono hwj); clear B BI HOI; have B := B2; clear B2; go_upto_region 24 with fail
           refine wp_region_lit ?_; refine jD 3 ?_
           repeat (first | go_big_quiet_skip | (go_big_quiet_want; first | ((first | refine zq (fun w hw => qL (xQ (zY i9 w hw))) ?_ | refine qB ?_ | refine qC ?_); simp only [zn]; go_big_quiet_on) | (go_big_quiet_op; go_big_quiet_on)))
           refine wpQuiet_nil ?_
           (refine yd (E := yq) rfl _ rfl (q) rfl (by omega) (kn B ?_); clear B; intro b_s1 wn zb zd s1 za zf zk B; replace oi := oi.be (za.mono zb); replace c8 := c8.be (za.mono zb); replace i9 := i9.be (za.mono zb); replace r2 := r2.be (za.mono zb); replace r3 := r3.be (za.mono zb); replace r4 := r4.be (za.mono zb); replace pc := pc.be (za.mono zb); simp only [zn])
           (at_builtin; refine jA rfl _ _ rfl _ _ rfl rfl oi ((xh.one s1)) (by simp only [List.length_append, List.length_cons, List.length_nil]; omega) (by omega) ?_; intro v_oi wn ht za; have zf := B.size; have hbz := za.size; replace B := B.trans (za.mono (by omega)); clear oi; replace c8 := c8.of_eq (za.block _ (by omega)); replace i9 := i9.of_eq (za.block _ (by omega)); replace r2 := r2.of_eq (za.block _ (by omega)); replace r3 := r3.of_eq (za.block _ (by omega)); replace r4 := r4.of_eq (za.block _ (by omega)); replace pc := pc.of_eq (za.block _ (by omega)); have oi := ht; clear ht; obtain ⟨a_oi, c_oi, hv, hco⟩ := oi.len; (try simp only [List.length_append, List.length_cons, List.length_nil, Nat.zero_add] at hv hco); subst hv; simp only [zn])
           refine jL 1 ?_
           (refine we rfl _ _ rfl _ rfl _ _ _ rfl i9 (xV B (by omega) ?_); clear i9 B; intro wn i9 ze zf zg B; replace c8 := c8.cg ze; replace r2 := r2.cg ze; replace r3 := r3.cg ze; replace r4 := r4.cg ze; replace pc := pc.cg ze; replace oi := oi.chg ze (by omega); simp only [zn])
           refine wpList_nil ?_; go_upto_region 17 with fail
           refine zS 3 ?_; go_wp2; go_roundw
           case rel => exact ⟨j + 1, _, _, P ++ [q], by omega, by go_num, HAT, B, by omega, c8, by rw [List.length_append]; exact i9, r2, r3, r4, pc, by rw [List.length_append]; exact oi⟩
           case measure => simp [intOf]; omega
         ·have q7 : decide (0 < n) = false := zB hn0
          have q7' : decide (n > 0) = false := zB hn0; have hpq : p = q := by rw [← HQ.out]; unfold ux; rw [if_neg hn0]
          subst hpq; go_upto_region 20 with fail
          refine zS 6 ?_; go_upto_region 22 with fail
          refine zS 2 ?_; have oi := HOI.out.be B; have k14 : b1 ≤ wn.heap.size := Nat.le_trans k11 B.size; have B2 := BI.trans (B.mono hwj); clear B BI HOI; have B := B2; clear B2; go_upto_region 24 with fail
          refine wp_region_lit ?_; refine jD 3 ?_
          repeat (first | go_big_quiet_skip | (go_big_quiet_want; first | ((first | refine zq (fun w hw => qL (xQ (zY i9 w hw))) ?_ | refine qB ?_ | refine qC ?_); simp only [zn]; go_big_quiet_on) | (go_big_quiet_op; go_big_quiet_on)))
          refine wpQuiet_nil ?_
          (refine yd (E := yq) rfl _ rfl (p) rfl (by omega) (kn B ?_); clear B; intro b_s1 wn zb zd s1 za zf zk B; replace oi := oi.be (za.mono zb); replace c8 := c8.be (za.mono zb); replace i9 := i9.be (za.mono zb); replace r2 := r2.be (za.mono zb); replace r3 := r3.be (za.mono zb); replace r4 := r4.be (za.mono zb); replace pc := pc.be (za.mono zb); simp only [zn])
          (at_builtin; refine jA rfl _ _ rfl _ _ rfl rfl oi ((xh.one s1)) (by simp only [List.length_append, List.length_cons, List.length_nil]; omega) (by omega) ?_; intro v_oi wn ht za; have zf := B.size; have hbz := za.size; replace B := B.trans (za.mono (by omega)); clear oi; replace c8 := c8.of_eq (za.block _ (by omega)); replace i9 := i9.of_eq (za.block _ (by omega)); replace r2 := r2.of_eq (za.block _ (by omega)); replace r3 := r3.of_eq (za.block _ (by omega)); replace r4 := r4.of_eq (za.block _ (by omega)); replace pc := pc.of_eq (za.block _ (by omega)); have oi := ht; clear ht; obtain ⟨a_oi, c_oi, hv, hco⟩ := oi.len; (try simp only [List.length_append, List.length_cons, List.length_nil, Nat.zero_add] at hv hco); subst hv; simp only [zn])
          refine jL 1 ?_
          (refine we rfl _ _ rfl _ rfl _ _ _ rfl i9 (xV B (by omega) ?_); clear i9 B; intro wn i9 ze zf zg B; replace c8 := c8.cg ze; replace r2 := r2.cg ze; replace r3 := r3.cg ze; replace r4 := r4.cg ze; replace pc := pc.cg ze; replace oi := oi.chg ze (by omega); simp only [zn])
          refine wpList_nil ?_; go_upto_region 17 with fail
          refine zS 3 ?_; go_wp2; go_roundw
          case rel => exact ⟨j + 1, _, _, P ++ [p], by omega, by go_num, HAT, B, by omega, c8, by rw [List.length_append]; exact i9, r2, r3, r4, pc, by rw [List.length_append]; exact oi⟩
          case measure => simp [intOf]; omega
        ·have q6 : decide (c.x0 + (j : Int) < c.x1) = false := zB (by omega)
         have hjW : j = Wd := by omega
         have HN := zo (show JV c (fun x y => ux s (kP x1 x y) (xJ M x y)) ((i + 1) * Wd) = P from by rw [Nat.add_mul, Nat.one_mul]; rw [hjW] at HP0; exact HP0.out)
         clear hjW; go_upto_region 16 with fail
         refine zS 4 ?_; go_upto_region 14 with fail
         refine zS 3 ?_; go_wp2; go_roundw
         case rel => exact ⟨i + 1, ai, ci, P, by omega, by go_num, HN, B, k11, c8, i9, r2, r3, r4, pc, oi⟩
         case measure => simp [intOf]; omega
      ·have q5 : decide (c.y0 + (i : Int) < c.y1) = false := zB (by omega)
       have hiH : i = (c.y1 - c.y0).toNat := by omega
       have hPI : P = I := by rw [← HP0.out, hiH, ← HWD.out, Nat.mul_comm, ← HAW.out, zd7, ← HI.out]
       subst hPI; clear hiH HP0; have hIn := HIN.out; have hA2 := HA.out; have q8 : decide ((0 : Int) < (P.length : Int)) = true := zQ (by omega); have q8' : decide ((P.length : Int) > 0) = true := zQ (by omega); have q8'' : decide (0 < P.length) = true := zQ (by omega); go_upto_region 13 with fail
       refine zS 4 ?_; go_upto_region 25 with fail
       refine wp_region_lit ?_; refine jD 2 ?_; repeat (first | go_big_quiet_skip | (go_big_quiet_want; first | ((first | refine zq (fun w hw => qL (xQ (zY i9 w hw))) ?_ | refine qB ?_ | refine qC ?_); simp only [zn]; go_big_quiet_on) | (go_big_quiet_op; go_big_quiet_on)))
       refine wpQuiet_nil ?_; refine j1 underlying115 ?_; refine z7 1 ?_; have rs1 := RS1.out.be B; have hu := oi.rs; go_upto_region 26 with fail
       refine wp_region_lit ?_; refine jD 2 ?_
       repeat (first | go_big_quiet_skip | (go_big_quiet_want; first | ((first | refine zq (fun w hw => ub (zY i9 w hw)) ?_ | refine qB ?_ | refine qC ?_); simp only [zn]; go_big_quiet_on) | (go_big_quiet_op; go_big_quiet_on)))
       refine wpQuiet_nil ?_; refine xz (zE func97) (c := zdw _ M R' E c _ P _ rs1 TM.out hMx hu (by unfold maxLen; omega) OKI.out HR'.out HEe.out) (h := ?_)
       rintro e wn ⟨a5, c5, rfl, rs5, za⟩; obtain ⟨zf, zg, B⟩ := zM B za
       replace r2 := r2.be za
       replace r3 := r3.be za
       replace r4 := r4.be za
       clear rs1 hu oi; refine ⟨_, rfl, ?_⟩; simp only [zn]
       (refine jH (t := 82) (qJ _ _ rfl) B ?_; clear B; intro b_t14 wn zb zd t14 za zf zk B; replace r2 := r2.be za; replace r3 := r3.be za; replace r4 := r4.be za; replace rs5 := rs5.be za)
       (refine qZ t14 B ?_; have t14o := t14; clear t14 B; intro wn t14 ze zf zg B; replace rs5 := rs5.chg t14o (by simp) ze; replace r2 := r2.cg ze; replace r3 := r3.cg ze; replace r4 := r4.cg ze)
       refine wpList_nil ?_; have hws5 := B.size; have k15 : wR.heap.size ≤ b_t14 := by omega
       have B2 := BW.trans (B.mono hws); have od := HOD.out.be B; clear B; have B := B2; clear B2; by_cases hE0 : E = 0
       ·subst hE0
        go_upto_region 27 with fail
        refine zS 3 ?_; go_upto_region 29 with fail
        refine wp_region_lit ?_; refine jD 2 ?_; repeat (first | go_big_quiet_skip | (go_big_quiet_want; first | ((first | refine zq (fun w hw => jQ ((zY t14 w hw).cell 0 rfl)) ?_ | refine qB ?_ | refine qC ?_); simp only [zn]; go_big_quiet_on) | (go_big_quiet_op; go_big_quiet_on)))
        refine wpQuiet_nil ?_
        (refine qZ r2 B ?_; have r2o := r2; clear r2 B; intro wn r2 ze zf zg B; replace od := od.chg ze (by omega); replace rs5 := rs5.chg r2o (by simp) ze; replace r3 := r3.cg ze; replace r4 := r4.cg ze)
        refine wpList_nil ?_; go_upto_region 8 with fail
        refine zS 3 ?_; go_wp2; go_roundw
        case rel => exact ⟨k + 1, a5, c5, R', by omega, by go_num, HS2, B, by omega, r3, r4, od, r2, rs5⟩
        case measure => simp [intOf]; omega
       ·have q9 : (E != 0) = true := by simpa using hE0
        have hfin := zb2 s L L0 (k + 1) HS2.out hE0; rw [← HFIN.out] at hfin; have hR0 : R' = [] := by
         have := Qy s (L.take (k + 1)) L0 (by rw [HS2.out]; exact hE0)
         rw [HS2.out] at this; exact this
        have HF := zo hfin; clear hfin; go_upto_region 27 with fail
        refine zS 3 ?_; go_upto_region 28 with fail
        refine qz 1 ?_
        (refine qZ r4 B ?_; have r4o := r4; clear r4 B; intro wn r4 ze zf zg B; replace rs5 := rs5.chg r4o (by simp) ze; replace r2 := r2.cg ze)
        refine wpList_nil ?_; subst hR0; go_step; go_step; first | (refine qO r4 ?_) | (go_step; refine qO r4 ?_) | (go_step; go_step; refine qO r4 ?_) | (go_step; go_step; go_step; refine qO r4 ?_) | (go_step; go_step; go_step; go_step; refine qO r4 ?_) | (go_step; go_step; go_step; go_step; go_step; refine qO r4 ?_) | (go_step; go_step; go_step; go_step; go_step; go_step; refine qO r4 ?_) | (go_step; go_step; go_step; go_step; go_step; go_step; go_step; refine qO r4 ?_) | (go_step; go_step; go_step; go_step; go_step; go_step; go_step; go_step; refine qO r4 ?_) | (go_step; go_step; go_step; go_step; go_step; go_step; go_step; go_step; go_step; refine qO r4 ?_) | (go_step; go_step; go_step; go_step; go_step; go_step; go_step; go_step; go_step; go_step; refine qO r4 ?_) | (go_step; go_step; go_step; go_step; go_step; go_step; go_step; go_step; go_step; go_step; go_step; refine qO r4 ?_)
        rw [HF.out]; exact ⟨_, _, rfl, rs5, B⟩
  ·have q1 : decide ((k : Int) < (L.length : Int)) = false := zB (by omega)
   have q2 : decide (k < L.length) = false := zB hkl; have hfin : jF s ls = (M, 0) := by rw [HFIN.out, ← HM.out, List.take_of_length_le (by omega)]
   have HF := zo hfin; clear hfin; go_upto_region 7 with fail
   refine qz 2 ?_; refine j1 underlying35 ?_; refine z7 1 ?_; go_upto_region 30 with fail
   refine qz 2 ?_
   (refine qZ r4 B ?_; have r4o := r4; clear r4 B; intro wn r4 ze zf zg B; replace rs1 := rs1.chg r4o (by simp) ze)
   refine wpList_nil ?_; first | (refine qO r4 ?_) | (go_step; refine qO r4 ?_) | (go_step; go_step; refine qO r4 ?_) | (go_step; go_step; go_step; refine qO r4 ?_) | (go_step; go_step; go_step; go_step; refine qO r4 ?_) | (go_step; go_step; go_step; go_step; go_step; refine qO r4 ?_)
   rw [HF.out]; exact ⟨_, _, rfl, rs1, B⟩
theorem KT (v vs : Value) (s : jb) (ls ks : List TA) (E : Int) (w : World) (h : RS v ls w) (tk : qQ ls) (hn : ls.length ≤ maxLen) (rs : xh jf vs s.pts w) (hn2 : s.pts.length ≤ 17592186044416) (hcol : s.col.ok) (e : jF s ls = (ks, E)) : Calls Tryz.prog 38 #[.agg #[v], .agg (jg vs s)] w fun e w' => ∃ a cp, e = .returned (.agg #[.slice a ks.length cp, .int .i64 E]) ∧ RS (.slice a ks.length cp) ks w' ∧ Below w.heap.size w w' := by
 cases hv : jT s with
 | true =>
  have := Wq v vs s ls w h tk hn rs hv hcol; rw [e] at this; exact this
 | false =>
  have e1 : jF s ls = ([], 1) := if_neg (by rw [hv]; simp)
  rw [e1] at e
  injection e with e1 e2
  subst e1 e2; exact (Wp v vs s ls w h rs hn2 hv).mono fun e w' ⟨h1, h2⟩ => ⟨none, 0, h1, RS.nil _, h2⟩
section
variable {α : Type} {k : Nat} {T ST : TypeId} {E : Xz α k T ST}
theorem zbU (ls : List α) (cs : Array Value) (hs : cs.size = ls.length * k) : Instr.fill (fun i => some (i * k, k)) cs (((ls.map fun x => Value.agg (E.enc x)).zipIdx 0).map fun y => (y.2, y.1)) = some (xO E ls).toArray := by
 obtain ⟨r, hr1, hr2, hr3⟩ := Great.fill_dense E.pos (ls.map fun x => Value.agg (E.enc x)) 0 cs (fun v hv => by obtain ⟨x, _, rfl⟩ := List.mem_map.1 hv; simp only [Value.cells, E.size]) (by rw [List.length_map, hs, Nat.zero_add]; exact Nat.le_refl _)
 rw [hr1]
 congr 1
 apply Array.ext_getElem?
 intro j
 have hr : (xO E ls).toArray[j]? = (xO E ls)[j]? := by rw [List.getElem?_toArray]
 rw [hr3 j, List.length_map, hr, Nat.zero_add]
 by_cases h : j < ls.length * k
 ·obtain ⟨h1, h2, h3⟩ := ZB E.pos h
  have hx : ls[j / k]? = some ls[j / k] := List.getElem?_eq_getElem h1; have h4 := Qb E ls (j / k) _ hx (j % k) h2; rw [← h3] at h4; rw [if_pos ⟨by rw [Nat.zero_mul]; omega, h⟩, h4, Nat.sub_zero, List.getElem?_map, hx]
  simp only [Option.map_some, Option.bind_some, Value.cells]
 ·rw [if_neg (fun h' => h h'.2), Array.getElem?_eq_none (by rw [hs]; exact Nat.le_of_not_lt h), List.getElem?_eq_none (by rw [x5]; exact Nat.le_of_not_lt h)]
variable {ops : Array Oper} {rest : List Oper} {o : Oper} {a : Act} {w : World} {Q : Exit → Act → World → Prop}
theorem zet {K : Act → World → Prop} (n : Nat) (ps : Array (Nat × Operand)) (ho : o.op = .buildSlice ST n ps) (ls : List α) (hl : ls.length = n) (hp : (ps.map fun (i, x) => (i, a.eval x)).toList = ((ls.map fun x => Value.agg (E.enc x)).zipIdx 0).map fun y => (y.2, y.1)) (hn : 0 < n) (hk : n * k ≤ 1000)
  (h : ∀ b w', w.heap.size ≤ b → b ≤ w.heap.size → jW E w' b ls → Below b w w' → w'.heap.size = b + 1 → K (a.put o.dst (.slice (some ⟨b, 0, none⟩) n n)) w') : o.wp Tryz.prog a w K Q := by
 obtain ⟨i, z, hi, hz, zf, hby, hzc⟩ := E.facts
 have hp0 := Nat.mul_pos hn E.pos
 refine wp_buildSlice ST T n ps ho (xO E ls).toArray i z E.und hi hz (by rw [zf]; omega) (by rw [zf]; omega) ?_ (h _ _ (Nat.le_refl _) (Nat.le_refl _) (by unfold jW zw; rw [zJ, if_pos rfl]) ((Below.refl _ _).alloc (Nat.le_refl _) _) (World.size_alloc _ _))
 rw [zf, hp]
 exact zbU ls _ (by rw [hl]; simp)
theorem Q2 (hw : Region.wanted o (yielded ops a.tmps) = true) (n : Nat) (ps : Array (Nat × Operand)) (ho : o.op = .buildSlice ST n ps) (ls : List α) (hl : ls.length = n) (hp : (ps.map fun (i, x) => (i, a.eval x)).toList = ((ls.map fun x => Value.agg (E.enc x)).zipIdx 0).map fun y => (y.2, y.1)) (hn : 0 < n) (hk : n * k ≤ 1000)
  (h : ∀ b w', w.heap.size ≤ b → b ≤ w.heap.size → jW E w' b ls → Below b w w' → w'.heap.size = b + 1 → wpList Tryz.prog ops Q rest (a.put o.dst (.slice (some ⟨b, 0, none⟩) n n)) w') : wpList Tryz.prog ops Q (o :: rest) a w := by
 unfold wpList
 rw [if_pos hw]
 exact .inl (zet n ps ho ls hl hp hn hk h)
end
def ja : jb := ⟨[⟨0, 0, 255⟩, ⟨100, 0, 255⟩, ⟨100, 30, 255⟩], 16, 40, ⟨200, 0, 0, 255⟩, false, 10⟩
def ur : List Db := [⟨10, 0, 16⟩, ⟨50, 0, 16⟩, ⟨90, 0, 16⟩]
theorem ln1 : jT ja = true := by decide +kernel
theorem ln2 : yY ja = ur := by decide +kernel
theorem ln3 : (spB ja 1).pha = 30 := by decide +kernel
theorem ln4 : yY (spB ja 1) = [] := by decide +kernel
theorem ln5 : kP ⟨8, 8, 8⟩ 0 0 = 191 := by decide +kernel
theorem ln6 : zgP ja = ⟨-1, -1, 7, 2⟩ := by decide +kernel
theorem ln7 : jT zSt = false := by decide +kernel
theorem ln8 : Zp [] = (zSt, 10) := Xd (by decide)
theorem wB : ja.col.ok := by unfold Px.ok ja; simp
theorem ln9 : Zp (yX ja) = (ja, 0) := W7 ((xq _).1 ln1) wB
def zdF : Rc := ⟨-1, -1, 1, 1⟩
theorem WH : ∀ d ∈ ur, Wc d ∧ zg1 zdF d := fun d hd => by
 have hc : d = ⟨10, 0, 16⟩ ∨ d = ⟨50, 0, 16⟩ ∨ d = ⟨90, 0, 16⟩ := by simpa [ur] using hd
 rcases hc with rfl | rfl | rfl
 ·refine ⟨by unfold Wc; decide, fun _ x y h => ?_⟩
  have e : ue (Qk ⟨10, 0, 16⟩) = ⟨-1, -1, 1, 1⟩ := by decide +kernel
  rw [e] at h; exact h
 ·refine ⟨by unfold Wc; decide, fun _ x y h => ?_⟩
  have e : ue (Qk ⟨50, 0, 16⟩) = ⟨0, -1, 1, 1⟩ := by decide +kernel
  rw [e] at h; rw [xe] at h ⊢; unfold zdF; simp only at h ⊢; omega
 ·refine ⟨by unfold Wc; decide, fun _ x y h => ?_⟩
  have e : ue (Qk ⟨90, 0, 16⟩) = ⟨0, -1, 1, 1⟩ := by decide +kernel
  rw [e] at h; rw [xe] at h ⊢; unfold zdF; simp only at h ⊢; omega
theorem zbI : xM zdF := by unfold zdF; refine ⟨?_, ?_, ?_, ?_, ?_, ?_, ?_, ?_⟩ <;> (simp only; omega)
theorem zeg : (xw ja ur []).2 = 0 := (Vh (s := ja) zbI (by decide) ur [] (fun d h => (WH d h).1) (fun d h => (WH d h).2) xf (fun e h => by cases h)).1
theorem zbV : qh [] = [] := kQ xf
theorem zge : xS ja = ur := by
 have := ln2
 unfold yY at this
 rw [ln1] at this
 exact this
theorem Vm : jF ja [] = xw ja ur [] := by
 unfold jF
 rw [if_pos ln1, zge, zbV]
theorem zjn : (jF ja []).2 = 0 := by rw [Vm]; exact zeg
theorem zjo : (xJ (jF ja []).1 0 0).a > 0 := by
 rw [Vm, Vi wB 0 0 ur [] (fun d h => (WH d h).1) xf qQ.nil zeg]
 decide +kernel
theorem vu (w : World) : Calls Tryz.prog 48 #[] w fun e w' => ∃ b, e = .returned (.agg (jg (.slice (some ⟨b, 0, none⟩) 3 3) ja)) ∧ xh jf (.slice (some ⟨b, 0, none⟩) 3 3) ja.pts w' ∧ Below w.heap.size w w' := by
 have B := Below.refl w.heap.size w
 go_enter func48, ntmps48
 go_upto_region 0 with fail
 refine wp_region_lit ?_
 (refine jH (t := 30) (qn _ _ rfl) B ?_; clear B; intro b_r0 wn zb zd r0 za zf zk B)
 refine wpList_nil ?_
 have hr0 := r0.lt
 go_upto_region 1 with fail
 refine wp_region_lit ?_
 (refine qH rfl (.agg #[.int .i64 0, .int .i64 0, .int .i64 255]) (by first | rfl | kernel_rfl | simp [go_sem, Act.eval]) ?_; simp only [zn])
 (refine qH rfl (.agg #[.int .i64 100, .int .i64 0, .int .i64 255]) (by first | rfl | kernel_rfl | simp [go_sem, Act.eval]) ?_; simp only [zn])
 (refine qH rfl (.agg #[.int .i64 100, .int .i64 30, .int .i64 255]) (by first | rfl | kernel_rfl | simp [go_sem, Act.eval]) ?_; simp only [zn])
 (refine Q2 (E := jf) (by first | rfl | simp [Region.wanted, yielded]) 3 _ rfl ja.pts rfl (by simp only [Act.eval, yj]; rfl) (by omega) (by omega) (kn B ?_); clear B; intro b_row wn zb zd row za zf zk B; replace r0 := r0.be (za.mono zb); simp only [zn])
 (refine qH rfl (.agg #[.int .u8 200, .int .u8 0, .int .u8 0, .int .u8 255]) (by first | rfl | kernel_rfl | simp [go_sem, Act.eval]) ?_; simp only [zn])
 (refine qH rfl (.agg (jg (.slice (some ⟨b_row, 0, none⟩) 3 3) ja)) (by first | rfl | kernel_rfl | simp [go_sem, Act.eval]) ?_; simp only [zn])
 (refine qZ (hone := (by simp [jg, Value.oneCell'])) r0 B ?_; clear r0 B; intro wn r0 ze zf zg B; replace row := row.cg ze)
 refine wpList_nil ?_
 first | (refine qO r0 ?_) | (go_step; refine qO r0 ?_) | (go_step; go_step; refine qO r0 ?_) | (go_step; go_step; go_step; refine qO r0 ?_) | (go_step; go_step; go_step; go_step; refine qO r0 ?_) | (go_step; go_step; go_step; go_step; go_step; refine qO r0 ?_)
 exact ⟨_, rfl, row.rs, B⟩
theorem zeh (v : Value) (w : World) (rs : xh jf v ja.pts w) : Calls Tryz.prog 26 #[.agg (jg v ja), .int .i64 1] w fun e w' => ∃ aa na ca ab nb cb, e = .returned (.tuple #[.agg (jg (.slice aa na ca) (spA ja 1)), .agg (jg (.slice ab nb cb) (spB ja 1)), .int .i64 0]) ∧ xh jf (.slice ab nb cb) (spB ja 1).pts w' ∧ Below w.heap.size w w' :=
 (Wn v ja 1 w rs ln1 (by omega) (by decide)).mono fun e w' ⟨va, vb, h1, h2, h3, h4⟩ => by
  obtain ⟨aa, ca, rfl, _⟩ := h2.len; obtain ⟨ab, cb, rfl, _⟩ := h3.len; exact ⟨_, _, _, _, _, _, h1, h3.rs, h4⟩
def lnK : List TA := (jF ja []).1
theorem lnP : jF ja [] = (lnK, 0) := Prod.ext rfl zjn
def lnY : List UInt8 := yX ja
theorem zgd : lnY.length ≤ 100000000 := by
 have e : yX ja = jw ja := by unfold yX; rw [ln1]; rfl
 show (yX ja).length ≤ _
 rw [e, JJ]
 decide
theorem zgh (w : World) : Calls Tryz.prog 34 #[.string (y5 lnY)] w fun e w' => ∃ a n c, e = .returned (.tuple #[.agg (jg (.slice a n c) ja), .int .i64 0]) ∧ xh jf (.slice a n c) ja.pts w' ∧ Below w.heap.size w w' :=
 (zal lnY ja 0 w zgd ln9).mono fun e w' ⟨v, h1, h2, h3⟩ => by
  obtain ⟨a, c, rfl, _⟩ := h2.len; exact ⟨_, _, _, h1, h2, h3⟩
theorem zgg (w : World) : Calls Tryz.prog 34 #[.string { data := #[] }] w fun e w' => ∃ a n c, e = .returned (.tuple #[.agg (jg (.slice a n c) zSt), .int .i64 10]) ∧ Below w.heap.size w w' :=
 (zal [] zSt 10 w (by simp) ln8).mono fun e w' ⟨v, h1, h2, h3⟩ => by
  obtain ⟨a, c, rfl, _⟩ := h2.len; exact ⟨_, _, _, h1, h3⟩
theorem JW : ja.pts.length ≤ 17592186044416 := by decide
theorem zgf : (spB ja 1).pts.length ≤ 17592186044416 := by decide
theorem zgc : lnK.length ≤ maxLen := by
 have := QQ (s := ja) wB (ls := []) qQ.nil
 have := (xp.1 this.1).1
 unfold lnK maxLen
 omega
theorem Va (d : Nat) (a b : Rc) (w : World) : (Op.equalIn (d + 2) 38 (.agg (jP a)) (.agg (jP b))).run Tryz.prog w = .ok (decide (a = b)) w := by
 obtain ⟨x, y, z, u⟩ := a
 obtain ⟨x', y', z', u'⟩ := b
 have h : (Op.equalIn (d + 2) 38 (.agg #[.int .i64 x, .int .i64 y, .int .i64 z, .int .i64 u]) (.agg #[.int .i64 x', .int .i64 y', .int .i64 z', .int .i64 u'])).run Tryz.prog w = .ok (x == x' && (y == y' && (z == z' && u == u'))) w := by
  by_cases h1 : x = x' <;> by_cases h2 : y = y' <;> by_cases h3 : z = z' <;> by_cases h4 : u = u' <;> simp [go_sem, h1, h2, h3, h4]
 refine h.trans ?_
 congr 1
 rw [Bool.eq_iff_iff]
 simp
theorem zfY (a b : Rc) (w : World) : (binOp .eql 38 (.agg (jP a)) (.agg (jP b))).run Tryz.prog w = .ok (.bool (decide (a = b))) w := by
 have h := run_eql_struct (P := Tryz.prog) w 38 (jP a) (jP b)
 rw [h, Va 9998 a b w]; rfl
theorem xl {o : Oper} {a : Act} {C : World → Prop} {K : Act → Prop} {p q : Operand} {t2 : TypeId} (h : o.op = .binOp .eql 38 p q t2) (x y : Rc) (hx : a.eval p = .agg (jP x)) (hy : a.eval q = .agg (jP y)) (b : Bool) (hb : decide (x = y) = b) (hk : K (a.put o.dst (.bool b))) : o.quiet Tryz.prog a C K :=
 ⟨_, fun w hw => by
  have hg : (eqGuard .eql 38 p q (.agg (jP x)) (.agg (jP y))).run Tryz.prog w = .ok () w := run_eqGuard_agg w _ 38 p q _ _ (by kernel_rfl); unfold Oper.quietAt execOp; simp only [h, hx, hy, hg, zfY, hb, Sem.run_bind, Sem.run_pure, Result.andThen_ok]; exact ⟨rfl, rfl⟩, hk⟩
def ziq : j2 := ⟨Option Addr × Nat, ⟨(none, 0)⟩, fun p => .slice p.1 0 p.2, fun _ _ => True, fun _ _ _ _ h => h⟩
def XU : j2 := ⟨Nat, ⟨0⟩, fun b => .agg (jg (.slice (some ⟨b, 0, none⟩) 3 3) ja), fun b w => xh jf (.slice (some ⟨b, 0, none⟩) 3 3) ja.pts w, fun _ _ _ hb h => h.be hb⟩
theorem zeQ (w : World) (lm : xN w) : Calls Tryz.prog 13 #[] w fun e w' => e = .returned (.bool true) ∧ Below w.heap.size w w' := by
 have B := Below.refl w.heap.size w
 have q30 : ((spB ja 1).pha == 30) = true := by rw [ln3]; rfl
 obtain ⟨⟨pr, pg, pb, pa⟩, hpx⟩ : ∃ p, xJ lnK 0 0 = p := ⟨_, rfl⟩
 have hpa : pa > 0 := by have := zjo; rw [show (jF ja []).1 = lnK from rfl, hpx] at this; exact this
 have HPX := zo hpx
 clear hpx
 have qa : decide (pa > 0) = true := zQ hpa
 have qa' : decide (0 < pa) = true := zQ hpa
 have GETC : Hid (∀ v w, RS v lnK w → Calls Tryz.prog 31 #[.agg #[v], .int .i64 0, .int .i64 0] w fun e w' => e = .returned (.agg #[.int .u8 pr, .int .u8 pg, .int .u8 pb, .int .u8 pa]) ∧ Below w.heap.size w w') := zo fun v w h => by
  have := zg4 v lnK 0 0 w h zgc (vS (by omega) (by omega)) (vS (by omega) (by omega)); rw [HPX.out] at this; exact this
 go_enter func13, ntmps13
 go_upto_region 0 with fail
 refine zS 1 ?_
 go_upto_region 1 with fail
 refine wp_region_lit ?_
 refine xz (zE func48) (c := vu _) (h := ?_)
 rintro e wn ⟨bl, rfl, rl, za⟩
 obtain ⟨zf, zg, B⟩ := zM B za
 replace lm := lm.be za
 refine ⟨_, rfl, ?_⟩
 simp only [zn]
 refine xz (zE func19) (c := Jr _ ja ur _ rl JW ln2) (h := ?_)
 rintro e wn ⟨a1, c1, rfl, od, za⟩
 obtain ⟨zf, zg, B⟩ := zM B za
 replace lm := lm.be za
 replace rl := rl.be za
 have rd := od.rs
 clear od rl
 refine ⟨_, rfl, ?_⟩
 simp only [zn]
 refine z7 1 ?_
 go_upto_region 2 with fail
 refine wp_region_lit ?_
 (refine qH rfl (.agg #[.int .i64 10, .int .i64 0, .int .i64 16]) (by first | rfl | kernel_rfl | simp [go_sem, Act.eval]) ?_; simp only [zn])
 (refine qH rfl (.agg #[.int .i64 50, .int .i64 0, .int .i64 16]) (by first | rfl | kernel_rfl | simp [go_sem, Act.eval]) ?_; simp only [zn])
 (refine qH rfl (.agg #[.int .i64 90, .int .i64 0, .int .i64 16]) (by first | rfl | kernel_rfl | simp [go_sem, Act.eval]) ?_; simp only [zn])
 (refine Q2 (E := kA) (by first | rfl | simp [Region.wanted, yielded]) 3 _ rfl ur rfl (by simp only [Act.eval, yj]; rfl) (by omega) (by omega) (kn B ?_); clear B; intro b_wr wn zb zd wr za zf zk B; replace lm := lm.be (za.mono zb); replace rd := rd.be (za.mono zb); simp only [zn])
 refine z7 1 ?_
 go_upto_region 3 with fail
 refine wp_region_lit ?_
 refine xz (zE func48) (c := vu _) (h := ?_)
 rintro e wn ⟨bl, rfl, rl, za⟩
 obtain ⟨zf, zg, B⟩ := zM B za
 replace lm := lm.be za
 replace rd := rd.be za
 replace wr := wr.be za
 refine ⟨_, rfl, ?_⟩
 simp only [zn]
 refine xz (zE func26) (c := zeh _ _ rl) (h := ?_)
 rintro e wn ⟨aa, na, ca, ab, nb, cb, rfl, rb, za⟩
 obtain ⟨zf, zg, B⟩ := zM B za
 replace lm := lm.be za
 replace rd := rd.be za
 replace wr := wr.be za
 replace rl := rl.be za
 clear rl
 refine ⟨_, rfl, ?_⟩
 simp only [zn]
 refine jL 4 ?_
 obtain ⟨wK, hK⟩ : ∃ z, z = wn := ⟨_, rfl⟩
 subst hK
 have BG := B
 have hwsK := BG.size
 have B := Below.refl wK.heap.size wK
 have H_lm := zo lm
 have H_rd := zo rd
 have H_wr := zo wr
 have H_rb := zo rb
 (refine jH (t := 30) (qn _ _ rfl) B ?_; clear B; intro b_r3 wn zb zd r3 za zf zk B; replace lm := lm.be za; replace rd := rd.be za; replace wr := wr.be za; replace rb := rb.be za)
 (have _ := r3.lt; refine jH (t := 30) (qn _ _ rfl) B ?_; clear B; intro b_r4 wn zb zd r4 za zf zk B; replace lm := lm.be za; replace rd := rd.be za; replace wr := wr.be za; replace rb := rb.be za; replace r3 := r3.be za)
 (refine qZ (hone := (by simp [jg, Value.oneCell'])) r3 B ?_; clear r3 B; intro wn r3 ze zf zg B; replace r4 := r4.cg ze)
 (refine qZ (hone := (by simp [jg, Value.oneCell'])) r4 B ?_; clear r4 B; intro wn r4 ze zf zg B; replace r3 := r3.cg ze)
 refine z7 1 ?_
 clear lm
 clear rd
 clear wr
 clear rb
 have lm := H_lm.out.be B
 have rd := H_rd.out.be B
 have wr := H_wr.out.be B
 have rb := H_rb.out.be B
 clear H_lm
 clear H_rd
 clear H_wr
 clear H_rb
 have B0 := BG.trans (B.mono hwsK)
 clear B BG hwsK
 have B := B0
 clear B0
 clear r3
 go_upto_region 4 with fail
 refine wp_region_lit ?_
 (refine qH rfl (.agg #[.slice none 0 0]) (by first | rfl | kernel_rfl | simp [go_sem, Act.eval]) ?_; simp only [zn])
 refine xz (zE func48) (c := vu _) (h := ?_)
 rintro e wn ⟨bl, rfl, rl, za⟩
 obtain ⟨zf, zg, B⟩ := zM B za
 replace lm := lm.be za
 replace rd := rd.be za
 replace wr := wr.be za
 replace rb := rb.be za
 replace r4 := r4.be za
 refine ⟨_, rfl, ?_⟩
 simp only [zn]
 refine xz (zE func30) (c := Jt _ _ ja [] lnK 0 _ lm (RS.nil _) qQ.nil (Nat.zero_le _) rl JW wB lnP) (h := ?_)
 rintro e wn ⟨ap, cp, rfl, rk, za⟩
 obtain ⟨zf, zg, B⟩ := zM B za
 replace lm := lm.be za
 replace rd := rd.be za
 replace wr := wr.be za
 replace rb := rb.be za
 replace r4 := r4.be za
 replace rl := rl.be za
 clear rl
 refine ⟨_, rfl, ?_⟩
 simp only [zn]
 refine jL 3 ?_
 obtain ⟨wK, hK⟩ : ∃ z, z = wn := ⟨_, rfl⟩
 subst hK
 have BG := B
 have hwsK := BG.size
 have B := Below.refl wK.heap.size wK
 have H_lm := zo lm
 have H_rd := zo rd
 have H_wr := zo wr
 have H_rb := zo rb
 have H_r4 := zo r4
 have H_rk := zo rk
 (refine jH (t := 64) (qK _ _ rfl) B ?_; clear B; intro b_r6 wn zb zd r6 za zf zk B; replace lm := lm.be za; replace rd := rd.be za; replace wr := wr.be za; replace rb := rb.be za; replace r4 := r4.be za; replace rk := rk.be za)
 (refine qZ r6 B ?_; clear r6 B; intro wn r6 ze zf zg B)
 refine z7 1 ?_
 clear lm
 clear rd
 clear wr
 clear rb
 clear r4
 clear rk
 have lm := H_lm.out.be B
 have rd := H_rd.out.be B
 have wr := H_wr.out.be B
 have rb := H_rb.out.be B
 have r4 := H_r4.out.be B
 have rk := H_rk.out.be B
 clear H_lm
 clear H_rd
 clear H_wr
 clear H_rb
 clear H_r4
 clear H_rk
 have B0 := BG.trans (B.mono hwsK)
 clear B BG hwsK
 have B := B0
 clear B0
 go_upto_region 5 with fail
 refine wp_region_lit ?_
 refine xz (zE func48) (c := vu _) (h := ?_)
 rintro e wn ⟨bl, rfl, rl, za⟩
 obtain ⟨zf, zg, B⟩ := zM B za
 replace lm := lm.be za
 replace rd := rd.be za
 replace wr := wr.be za
 replace rb := rb.be za
 replace r4 := r4.be za
 replace rk := rk.be za
 replace r6 := r6.be za
 refine ⟨_, rfl, ?_⟩
 simp only [zn]
 refine qe B (zE func33) (c := Jp _ ja lnY _ rl JW wB rfl) ?_
 clear B
 intro wn za zf zg B
 replace lm := lm.be za
 replace rd := rd.be za
 replace wr := wr.be za
 replace rb := rb.be za
 replace r4 := r4.be za
 replace rk := rk.be za
 replace r6 := r6.be za
 replace rl := rl.be za
 clear rl
 refine xz (zE func34) (c := zgh _) (h := ?_)
 rintro e wn ⟨a8, n8, c8, rfl, r8s, za⟩
 obtain ⟨zf, zg, B⟩ := zM B za
 replace lm := lm.be za
 replace rd := rd.be za
 replace wr := wr.be za
 replace rb := rb.be za
 replace r4 := r4.be za
 replace rk := rk.be za
 replace r6 := r6.be za
 refine ⟨_, rfl, ?_⟩
 simp only [zn]
 refine jL 3 ?_
 obtain ⟨wK, hK⟩ : ∃ z, z = wn := ⟨_, rfl⟩
 subst hK
 have BG := B
 have hwsK := BG.size
 have B := Below.refl wK.heap.size wK
 have H_lm := zo lm
 have H_rd := zo rd
 have H_wr := zo wr
 have H_rb := zo rb
 have H_r4 := zo r4
 have H_rk := zo rk
 have H_r6 := zo r6
 have H_r8s := zo r8s
 (refine jH (t := 30) (qn _ _ rfl) B ?_; clear B; intro b_r8 wn zb zd r8 za zf zk B; replace lm := lm.be za; replace rd := rd.be za; replace wr := wr.be za; replace rb := rb.be za; replace r4 := r4.be za; replace rk := rk.be za; replace r6 := r6.be za; replace r8s := r8s.be za)
 (refine qZ (hone := (by simp [jg, Value.oneCell'])) r8 B ?_; clear r8 B; intro wn r8 ze zf zg B)
 refine z7 1 ?_
 clear lm
 clear rd
 clear wr
 clear rb
 clear r4
 clear rk
 clear r6
 clear r8s
 have lm := H_lm.out.be B
 have rd := H_rd.out.be B
 have wr := H_wr.out.be B
 have rb := H_rb.out.be B
 have r4 := H_r4.out.be B
 have rk := H_rk.out.be B
 have r6 := H_r6.out.be B
 have r8s := H_r8s.out.be B
 clear H_lm
 clear H_rd
 clear H_wr
 clear H_rb
 clear H_r4
 clear H_rk
 clear H_r6
 clear H_r8s
 have B0 := BG.trans (B.mono hwsK)
 clear B BG hwsK
 have B := B0
 clear B0
 go_upto_region 6 with fail
 refine wp_region_lit ?_
 refine xz (zE func34) (c := zgg _) (h := ?_)
 rintro e wn ⟨a10, n10, c10, rfl, za⟩
 obtain ⟨zf, zg, B⟩ := zM B za
 replace lm := lm.be za
 replace rd := rd.be za
 replace wr := wr.be za
 replace rb := rb.be za
 replace r4 := r4.be za
 replace rk := rk.be za
 replace r6 := r6.be za
 replace r8s := r8s.be za
 replace r8 := r8.be za
 refine ⟨_, rfl, ?_⟩
 simp only [zn]
 refine jL 3 ?_
 obtain ⟨wK, hK⟩ : ∃ z, z = wn := ⟨_, rfl⟩
 subst hK
 have BG := B
 have hwsK := BG.size
 have B := Below.refl wK.heap.size wK
 have H_lm := zo lm
 have H_rd := zo rd
 have H_wr := zo wr
 have H_rb := zo rb
 have H_r4 := zo r4
 have H_rk := zo rk
 have H_r6 := zo r6
 have H_r8s := zo r8s
 have H_r8 := zo r8
 (refine jH (t := 30) (qn _ _ rfl) B ?_; clear B; intro b_r10 wn zb zd r10 za zf zk B; replace lm := lm.be za; replace rd := rd.be za; replace wr := wr.be za; replace rb := rb.be za; replace r4 := r4.be za; replace rk := rk.be za; replace r6 := r6.be za; replace r8s := r8s.be za; replace r8 := r8.be za)
 (refine qZ (hone := (by simp [jg, Value.oneCell'])) r10 B ?_; clear r10 B; intro wn r10 ze zf zg B)
 refine z7 1 ?_
 clear lm
 clear rd
 clear wr
 clear rb
 clear r4
 clear rk
 clear r6
 clear r8s
 clear r8
 have lm := H_lm.out.be B
 have rd := H_rd.out.be B
 have wr := H_wr.out.be B
 have rb := H_rb.out.be B
 have r4 := H_r4.out.be B
 have rk := H_rk.out.be B
 have r6 := H_r6.out.be B
 have r8s := H_r8s.out.be B
 have r8 := H_r8.out.be B
 clear H_lm
 clear H_rd
 clear H_wr
 clear H_rb
 clear H_r4
 clear H_rk
 clear H_r6
 clear H_r8s
 clear H_r8
 have B0 := BG.trans (B.mono hwsK)
 clear B BG hwsK
 have B := B0
 clear B0
 clear r10
 go_upto_region 7 with fail
 refine zA 62 [(2, zF ?v1_2), (14, ziq), (15, zF ?v1_15), (20, zF ?v1_20), (29, zF ?v1_29), (39, XU), (40, zF ?v1_40), (47, XU), (48, zF ?v1_48), (52, zF ?v1_52), (56, XU), (57, zF ?v1_57)] (by kernel_rfl) (by kernel_rfl) (by kernel_rfl) ?_
 rotate_left 8
 simp only [jS, Nat.reduceAdd]
 refine vV 2 ?_
 repeat (first | go_big_quiet_skip | (go_big_quiet_want; first | ((first | refine xl rfl ⟨-1, -1, 7, 2⟩ ⟨-1, -1, 7, 2⟩ rfl rfl true (by decide) ?_ | refine qB ?_ | refine qC ?_); simp only [zn]; go_big_quiet_on) | (go_big_quiet_op; go_big_quiet_on)))
 refine wpQuiet_nil ?_
 refine zcB ?_ ?_
 ·intro wn za hE Kx hKx
  obtain ⟨zf, zg, B⟩ := zM B za
  replace lm := lm.be za
  replace rd := rd.be za
  replace wr := wr.be za
  replace rb := rb.be za
  replace r4 := r4.be za
  replace rk := rk.be za
  replace r6 := r6.be za
  replace r8s := r8s.be za
  replace r8 := r8.be za
  refine zcF func18 ?_
  refine (Ws _ _ ur ur true wn rd wr.rs (by decide) (by decide) (by decide)).mono ?_; rintro e wm ⟨rfl, zl⟩; refine ⟨_, rfl, ?_⟩; have hz := hKx () wm trivial zl
  dsimp only [zF] at hz
  exact hz
 rintro ⟨⟩
 dsimp only [zF]
 simp only [zn]
 refine vV 11 ?_
 repeat (first | go_big_quiet_skip | (go_big_quiet_want; first | ((first | refine xl rfl ⟨-1, -1, 7, 2⟩ ⟨-1, -1, 7, 2⟩ rfl rfl true (by decide) ?_ | refine qB ?_ | refine qC ?_); simp only [zn]; go_big_quiet_on) | (go_big_quiet_op; go_big_quiet_on)))
 refine wpQuiet_nil ?_
 refine qv (by rfl) ?hw1_14 ?_ ?_
 case hw1_14 => kernel_rfl
 ·intro wn za hE Kx hKx
  obtain ⟨zf, zg, B⟩ := zM B za
  replace lm := lm.be za
  replace rb := rb.be za
  replace r4 := r4.be za
  replace rk := rk.be za
  replace r6 := r6.be za
  replace r8s := r8s.be za
  replace r8 := r8.be za
  refine zcF func19 ?_
  refine (Jr _ (spB ja 1) [] wn rb zgf ln4).mono ?_; rintro e wm ⟨a', c', rfl, _, zl⟩; exact ⟨_, rfl, hKx (a', c') wm trivial zl⟩
 rintro ⟨a54, c54⟩
 dsimp only [zF, ziq]
 simp only [zn]
 refine qv (by rfl) ?hw1_15 ?_ ?_
 case hw1_15 => kernel_rfl
 ·intro wn za hE Kx hKx
  obtain ⟨zf, zg, B⟩ := zM B za
  replace lm := lm.be za
  replace r4 := r4.be za
  replace rk := rk.be za
  replace r6 := r6.be za
  replace r8s := r8s.be za
  replace r8 := r8.be za
  refine kK rfl underlying35 rfl ?_; exact hKx () _ trivial (Below.refl _ _)
 rintro ⟨⟩
 dsimp only [zF]
 simp only [zn]
 refine vV 4 ?_
 repeat (first | go_big_quiet_skip | (go_big_quiet_want; first | ((first | refine xl rfl ⟨-1, -1, 7, 2⟩ ⟨-1, -1, 7, 2⟩ rfl rfl true (by decide) ?_ | refine qB ?_ | refine qC ?_); simp only [zn]; go_big_quiet_on) | (go_big_quiet_op; go_big_quiet_on)))
 refine wpQuiet_nil ?_
 refine qv (by rfl) ?hw1_20 ?_ ?_
 case hw1_20 => kernel_rfl
 ·intro wn za hE Kx hKx
  obtain ⟨zf, zg, B⟩ := zM B za
  replace lm := lm.be za
  replace r4 := r4.be za
  replace rk := rk.be za
  replace r6 := r6.be za
  replace r8s := r8s.be za
  replace r8 := r8.be za
  refine zcF func24 ?_
  refine (zag ⟨8, 8, 8⟩ 0 0 191 wn (by simp only; omega) (by simp only; omega) (by simp only; omega) ln5).mono ?_
  rintro e wm ⟨rfl, zl⟩; refine ⟨_, rfl, ?_⟩; have hz := hKx () wm trivial zl
  dsimp only [zF] at hz
  exact hz
 rintro ⟨⟩
 dsimp only [zF]
 simp only [zn]
 refine vV 8 ?_
 repeat (first | go_big_quiet_skip | (go_big_quiet_want; first | ((first | refine xl rfl ⟨-1, -1, 7, 2⟩ ⟨-1, -1, 7, 2⟩ rfl rfl true (by decide) ?_ | refine qB ?_ | refine qC ?_); simp only [zn]; go_big_quiet_on) | (go_big_quiet_op; go_big_quiet_on)))
 refine wpQuiet_nil ?_
 refine qv (by rfl) ?hw1_29 ?_ ?_
 case hw1_29 => kernel_rfl
 ·intro wn za hE Kx hKx
  obtain ⟨zf, zg, B⟩ := zM B za
  replace lm := lm.be za
  replace r4 := r4.be za
  replace rk := rk.be za
  replace r8s := r8s.be za
  replace r8 := r8.be za
  refine zcF func31 ?_
  refine (GETC.out _ wn rk).mono ?_; rintro e wm ⟨rfl, zl⟩; refine ⟨_, rfl, ?_⟩; have hz := hKx () wm trivial zl
  dsimp only [zF] at hz
  exact hz
 rintro ⟨⟩
 dsimp only [zF]
 simp only [zn]
 refine vV 9 ?_
 repeat (first | go_big_quiet_skip | (go_big_quiet_want; first | ((first | refine xl rfl ⟨-1, -1, 7, 2⟩ ⟨-1, -1, 7, 2⟩ rfl rfl true (by decide) ?_ | refine qB ?_ | refine qC ?_); simp only [zn]; go_big_quiet_on) | (go_big_quiet_op; go_big_quiet_on)))
 refine wpQuiet_nil ?_
 refine qv (by rfl) ?hw1_39 ?_ ?_
 case hw1_39 => kernel_rfl
 ·intro wn za hE Kx hKx
  obtain ⟨zf, zg, B⟩ := zM B za
  replace lm := lm.be za
  replace r8s := r8s.be za
  refine zcF func48 ?_
  refine (vu wn).mono ?_; rintro e wm ⟨b', rfl, hr, zl⟩; exact ⟨_, rfl, hKx b' wm hr zl⟩
 rintro bl79
 dsimp only [zF, XU]
 simp only [zn]
 refine qv (by rfl) ?hw1_40 ?_ ?_
 case hw1_40 => kernel_rfl
 ·intro wn za hE Kx hKx
  obtain ⟨zf, zg, B⟩ := zM B za
  replace lm := lm.be za
  replace r8s := r8s.be za
  have n79 := hE 39 (by kernel_rfl); change xh _ _ _ _ at n79
  refine zcF func28 ?_
  refine (zdx _ _ ja ja true wn r8s n79 (by decide) (by decide) (by decide)).mono ?_; rintro e wm ⟨rfl, zl⟩; refine ⟨_, rfl, ?_⟩; have hz := hKx () wm trivial zl
  dsimp only [zF] at hz
  exact hz
 rintro ⟨⟩
 dsimp only [zF]
 simp only [zn]
 refine vV 6 ?_
 repeat (first | go_big_quiet_skip | (go_big_quiet_want; first | ((first | refine xl rfl ⟨-1, -1, 7, 2⟩ ⟨-1, -1, 7, 2⟩ rfl rfl true (by decide) ?_ | refine qB ?_ | refine qC ?_); simp only [zn]; go_big_quiet_on) | (go_big_quiet_op; go_big_quiet_on)))
 refine wpQuiet_nil ?_
 refine qv (by rfl) ?hw1_47 ?_ ?_
 case hw1_47 => kernel_rfl
 ·intro wn za hE Kx hKx
  obtain ⟨zf, zg, B⟩ := zM B za
  replace lm := lm.be za
  refine zcF func48 ?_
  refine (vu wn).mono ?_; rintro e wm ⟨b', rfl, hr, zl⟩; exact ⟨_, rfl, hKx b' wm hr zl⟩
 rintro bl87
 dsimp only [zF, XU]
 simp only [zn]
 refine qv (by rfl) ?hw1_48 ?_ ?_
 case hw1_48 => kernel_rfl
 ·intro wn za hE Kx hKx
  obtain ⟨zf, zg, B⟩ := zM B za
  replace lm := lm.be za
  have n87 := hE 47 (by kernel_rfl); change xh _ _ _ _ at n87
  refine zcF func16 ?_
  refine (yi _ ja true wn n87 JW ln1).mono ?_; rintro e wm ⟨rfl, zl⟩; refine ⟨_, rfl, ?_⟩; have hz := hKx () wm trivial zl
  dsimp only [zF] at hz
  exact hz
 rintro ⟨⟩
 dsimp only [zF]
 simp only [zn]
 refine vV 3 ?_
 repeat (first | go_big_quiet_skip | (go_big_quiet_want; first | ((first | refine xl rfl ⟨-1, -1, 7, 2⟩ ⟨-1, -1, 7, 2⟩ rfl rfl true (by decide) ?_ | refine qB ?_ | refine qC ?_); simp only [zn]; go_big_quiet_on) | (go_big_quiet_op; go_big_quiet_on)))
 refine wpQuiet_nil ?_
 refine qv (by rfl) ?hw1_52 ?_ ?_
 case hw1_52 => kernel_rfl
 ·intro wn za hE Kx hKx
  obtain ⟨zf, zg, B⟩ := zM B za
  replace lm := lm.be za
  refine zcF func16 ?_
  refine (yi (.slice none 0 0) zSt false wn (qM.nil (E := jf) 0 wn).rs (by decide) ln7).mono ?_; rintro e wm ⟨rfl, zl⟩; refine ⟨_, rfl, ?_⟩; have hz := hKx () wm trivial zl
  dsimp only [zF] at hz
  exact hz
 rintro ⟨⟩
 dsimp only [zF]
 simp only [zn]
 refine vV 3 ?_
 repeat (first | go_big_quiet_skip | (go_big_quiet_want; first | ((first | refine xl rfl ⟨-1, -1, 7, 2⟩ ⟨-1, -1, 7, 2⟩ rfl rfl true (by decide) ?_ | refine qB ?_ | refine qC ?_); simp only [zn]; go_big_quiet_on) | (go_big_quiet_op; go_big_quiet_on)))
 refine wpQuiet_nil ?_
 refine qv (by rfl) ?hw1_56 ?_ ?_
 case hw1_56 => kernel_rfl
 ·intro wn za hE Kx hKx
  obtain ⟨zf, zg, B⟩ := zM B za
  replace lm := lm.be za
  refine zcF func48 ?_
  refine (vu wn).mono ?_; rintro e wm ⟨b', rfl, hr, zl⟩; exact ⟨_, rfl, hKx b' wm hr zl⟩
 rintro bl96
 dsimp only [zF, XU]
 simp only [zn]
 refine qv (by rfl) ?hw1_57 ?_ ?_
 case hw1_57 => kernel_rfl
 ·intro wn za hE Kx hKx
  obtain ⟨zf, zg, B⟩ := zM B za
  replace lm := lm.be za
  have n96 := hE 56 (by kernel_rfl); change xh _ _ _ _ at n96
  refine zcF func21 ?_
  refine (zcJ _ ja ⟨-1, -1, 7, 2⟩ wn lm n96 JW ln6).mono ?_; rintro e wm ⟨rfl, zl⟩; refine ⟨_, rfl, ?_⟩; have hz := hKx () wm trivial zl
  dsimp only [zF] at hz
  exact hz
 rintro ⟨⟩
 dsimp only [zF]
 simp only [zn]
 refine vV 4 ?_
 repeat (first | go_big_quiet_skip | (go_big_quiet_want; first | ((first | refine xl rfl ⟨-1, -1, 7, 2⟩ ⟨-1, -1, 7, 2⟩ rfl rfl true (by decide) ?_ | refine qB ?_ | refine qC ?_); simp only [zn]; go_big_quiet_on) | (go_big_quiet_op; go_big_quiet_on)))
 refine wpQuiet_nil ?_
 refine qi ?_
 intro wn za hE
 obtain ⟨zf, zg, B⟩ := zM B za
 have n79 := hE 39
 change xh _ _ _ _ at n79
 have n87 := hE 47
 change xh _ _ _ _ at n87
 have n96 := hE 56
 change xh _ _ _ _ at n96
 clear hE
 try simp only [List.drop_succ_cons, List.drop_zero]
 refine zI.normal ?_
 go_wp2
 go_ret
 exact ⟨rfl, B⟩
end Go.Proofs.YtepelndbbhdofaaGreatDoor
namespace Go.Proofs.YtepelndbbhdofaaGreatDoor
open Go.ChangeShapes Go.WideShapes Go.ChangeAt Go.RowKit Pl
set_option linter.unusedVariables false
set_option linter.unusedSimpArgs false
set_option maxRecDepth 20000
open Go.Proofs.Tryz
theorem zeJ : reachBytes ≤ 140737488351232 := by decide
section
variable {H : Type} {enc : TypeId × Value → H} {w : World} {base : Nat} {spare : Nat → Bool} {held : Bool}
theorem zbD (b off n : Nat) : (Addr.add ⟨b, off, none⟩ n) = ⟨b, off + n, none⟩ := by
 unfold Addr.add; split
 ·rename_i h; subst h; rfl
 ·rfl
theorem Yk {fuel : Nat} {cs : List Value} {x : DataW H × List MemPlace} (h : DataW.trod enc Tryz.prog w base spare held fuel 22 cs = some x) (hw : ∀ n ∈ x.1.weights Tryz.prog 22, n ≤ reachBytes) :
  ∃ v L, cs = [v] ∧ xh inE v L w ∧ L.length ≤ 17592186044416 := by
 have hC : Tryz.prog.cellsOf 3 = 1 := by kernel_rfl
 have hB : Tryz.prog.bytesOf 3 = 8 := by kernel_rfl
 rcases open_ints underlying22 underlying3 hC h with ⟨rfl, rfl⟩ | ⟨a, len, cap, zs, rfl, _, hl, hcap, hz, rfl, hcell, _⟩
 ·exact ⟨_, [], rfl, xh.nil w, by simp⟩
 ·have hzl : len ≤ zs.length := by rw [hz]; split <;> omega
  have htl : (zs.take len).length = len := by rw [List.length_take, Nat.min_eq_left hzl]
  refine ⟨_, zs.take len, rfl, ?_, ?_⟩
  ·by_cases h0 : len = 0
   ·subst h0; exact .inr (.inr ⟨a, cap, rfl, by simp⟩)
   ·obtain ⟨b, off, spot⟩ := a
    have c0 := hcell 0 (by omega); have hspot : spot = none := by simpa [Addr.add] using World.cell?_spot c0
    subst hspot; simp only [zbD] at hcell c0; refine .inr (.inl ⟨b, off, cap, by rw [htl], by rw [htl]; exact hl, fun _ => ⟨World.block_lt_of_cell? w _ c0, fun i x hi j hj => ?_⟩⟩)
    obtain rfl : j = 0 := by omega
    have hil : i < len := by rw [← htl]; exact (List.getElem?_eq_some_iff.1 hi).1
    rw [List.getElem?_take_of_lt hil] at hi; rw [Nat.mul_one, Nat.add_zero, hcell i (by omega), List.getD_eq_getElem?_getD, hi]
    rfl
  ·rw [htl]
   have := hw ((len + (zs.length - len)) * 8) (by simp [DataW.weights, underlying22, hB, lits, Nat.min_eq_left hzl]); have := zeJ; omega
theorem WK {r : Reach} {b0 : Nat} {v : Value} {d : DataW H} {p : List MemPlace} (hv : Value.okWide Tryz.prog w r b0 22 v)
  (h : DataW.Trod enc Tryz.prog w base spare held 22 v d p) (hw : ∀ n ∈ d.weights Tryz.prog 22, n ≤ reachBytes) : ∃ L, xh inE v L w ∧ L.length ≤ 17592186044416 := by
 obtain ⟨a0, len, cap, rfl⟩ := okWide_slice underlying22 hv
 obtain ⟨fuel, hf⟩ := h
 obtain ⟨v', L, e, h1, h2⟩ := Yk hf hw
 simp [Value.cells] at e
 subst e
 exact ⟨L, h1, h2⟩
theorem Yj {fuel : Nat} {cs : List Value} {x : DataW H × List MemPlace} (h : DataW.trod enc Tryz.prog w base spare held fuel 3 cs = some x) : ∃ n : Int, cs = [.int .i64 n] ∧ (Lit.int .i64 n).wf = true := by
 obtain ⟨n, e, _, wf⟩ := DataW.trod_int underlying3 h
 exact ⟨n, e, wf⟩
end
end Go.Proofs.YtepelndbbhdofaaGreatDoor
namespace Go.Proofs.YtepelndbbhdofaaGreatDoor
open Go.ChangeShapes Go.WideShapes Go.ChangeAt Go.RowKit Pl
set_option linter.unusedVariables false
set_option linter.unusedSimpArgs false
open Go.Proofs.Tryz
def Vj : List (String × DataW Unit) := [("gouache/stroke.limits", Rows.laid_gouache_stroke_limits)]
theorem zdO (os : Os) (args : Array Value) : laidMetH Tryz.prog Vj ((World.doorLaid Tryz.prog 400 os).forCall (fun _ _ => 0) ⟨#[], args, []⟩).memory :=
 laidMetH_of_parts3 (fuel := 8) (laidMet_of_run' 8 (by kernel_rfl) (by kernel_rfl)) (by kernel_rfl) (by kernel_rfl)
theorem zaK : Tryz.prog.globalNamed "gouache/stroke.limits" = some 0 := by kernel_rfl
theorem Vl {W : World} (h : laidMetH Tryz.prog Vj W) : xN W := by
 rw [MakeChecks.laidMetH_plain _ _ _ (by kernel_rfl)] at h
 obtain ⟨ps, ⟨g, t, cs, fuel, p, q, hg, ht, hv, hd, _, _⟩, _⟩ := h
 obtain rfl := Option.some.inj (zaK.symm.trans hg)
 have hty : (Tryz.prog.globals[0]?).map (·.type) = some 38 := by kernel_rfl
 obtain rfl := Option.some.inj (hty.symm.trans ht)
 have hC : Tryz.prog.cellsOf 3 = 1 := by kernel_rfl
 have hC4 : Tryz.prog.cellsOf 38 = 4 := by kernel_rfl
 obtain ⟨y0, y1, y2, y3, n, hx, hlen, h0, h1, h2, h3⟩ := Joins.trod_struct4 underlying38 hd
 obtain ⟨c0, c1, c2, c3, rfl⟩ := Joins.array4 (show cs.size = 4 from by rw [← Array.length_toList, hlen, hC4])
 simp only [hC, List.drop_zero, List.drop_succ_cons, List.take_succ_cons, List.take_zero] at h0 h1 h2 h3
 obtain ⟨a, ea, ya, _⟩ := DataW.trod_int underlying3 h0
 obtain ⟨b, eb, yb, _⟩ := DataW.trod_int underlying3 h1
 obtain ⟨c, ec, yc, _⟩ := DataW.trod_int underlying3 h2
 obtain ⟨e, ee, ye, _⟩ := DataW.trod_int underlying3 h3
 subst ya yb yc ye
 simp only [Rows.laid_gouache_stroke_limits, Prod.mk.injEq, DataW.agg.injEq, List.cons.injEq, DataW.lit.injEq, Lit.int.injEq, true_and, and_true] at hx
 obtain ⟨⟨rfl, rfl, rfl, rfl⟩, _⟩ := hx
 simp at ea eb ec ee
 subst ea eb ec ee
 have hh : ∃ t k, W.heap[0]? = some (.cells #[.int .i64 (-65536), .int .i64 (-65536), .int .i64 65536, .int .i64 65536] t k) := by
  unfold World.var? at hv; rw [zaK] at hv; simp only [Option.bind_some] at hv; split at hv
  ·rename_i cs2 t2 k2 he
   injection hv with hv
   subst hv; exact ⟨_, _, he⟩
  ·cases hv
 obtain ⟨t2, k2, hh⟩ := hh
 refine ⟨(Array.getElem?_eq_some_iff.1 hh).1, fun j hj => ?_⟩
 unfold World.cell?
 simp only [hh]
 rfl
end Go.Proofs.YtepelndbbhdofaaGreatDoor
namespace Go.Proofs.YtepelndbbhdofaaGreatDoor
open Go.ChangeShapes Go.WideShapes Go.ChangeAt Go.RowKit Pl
set_option linter.unusedVariables false
set_option linter.unusedSimpArgs false
set_option maxRecDepth 20000
section
variable {H : Type} {enc : TypeId × Value → H} {w : World} {base : Nat} {spare : Nat → Bool} {held : Bool}
end
theorem zhy (x : Int) : ∃ p : Int, bits .and .i64 x 15 = p ∧ 0 ≤ p ∧ p ≤ 15 := ⟨x % 16, kz x 4 15 rfl (by decide), by omega, by omega⟩
theorem zhz (x : Int) : ∃ p : Int, bits .and .i64 x 31 = p ∧ 0 ≤ p ∧ p ≤ 31 := ⟨x % 32, kz x 5 31 rfl (by decide), by omega, by omega⟩
end Go.Proofs.YtepelndbbhdofaaGreatDoor
namespace Go.Proofs.YtepelndbbhdofaaGreatDoor
open Go.ChangeShapes Go.WideShapes Go.ChangeAt Go.RowKit Pl
set_option linter.unusedVariables false
set_option linter.unusedSimpArgs false
set_option maxRecDepth 20000
open Go.Proofs.Tryz
section
variable {H : Type} {enc : TypeId × Value → H} {w : World} {base : Nat} {spare : Nat → Bool} {held : Bool}
theorem WL {r : Reach} {b0 : Nat} {v : Value} {d : DataW H} {p : List MemPlace} (hv : Value.okWide Tryz.prog w r b0 24 v)
  (h : DataW.Trod enc Tryz.prog w base spare held 24 v d p) (hw : ∀ n ∈ d.weights Tryz.prog 24, n ≤ reachBytes) :
  ∃ (vL : Value) (L : List Int) (how val : Int), v = .agg #[vL, .int .i64 how, .int .i64 val] ∧ xh inE vL L w ∧ L.length ≤ 17592186044416 ∧ (Lit.int .i64 how).wf = true ∧ (Lit.int .i64 val).wf = true := by
 obtain ⟨v0, v1, v2, y0, y1, y2, n, rfl, hd, _, h0, h1, h2⟩ := Joins.open_agg3 underlying24 (by kernel_rfl) (by kernel_rfl) hv h
 have hww : ∀ n, n ∈ y0.1.weights Tryz.prog 22 → n ≤ reachBytes := fun n hn => by
  refine hw n ?_; rw [hd]; simp only [DataW.weights, underlying24]; simp only [List.map_cons, List.map_nil, DataW.weightsEach, List.mem_append]; exact .inl hn
 obtain ⟨vL, L, eL, rL, lL⟩ := Yk h0 fun n hn => hww n hn
 obtain ⟨how, eh, wh⟩ := Yj h1
 obtain ⟨val, ev, wv⟩ := Yj h2
 simp at eL eh ev
 subst eL; subst eh; subst ev
 exact ⟨_, L, how, val, rfl, rL, lL, wh, wv⟩
end
end Go.Proofs.YtepelndbbhdofaaGreatDoor
namespace Go.Proofs.YtepelndbbhdofaaGreatDoor
open Go.RowKit Go.Shelf Pl Sha Go.Proofs.Tryz
set_option linter.unusedVariables false
set_option linter.unusedSimpArgs false
set_option maxRecDepth 20000
set_option maxHeartbeats 8000000
def InD (m n R : Int) (d : Db) : Prop := (m ≤ d.x ∧ d.x ≤ n) ∧ (m ≤ d.y ∧ d.y ≤ n) ∧ 0 ≤ d.r ∧ d.r ≤ R
def InS (m n : Int) (a : Sp) : Prop := (m ≤ a.x ∧ a.x ≤ n) ∧ (m ≤ a.y ∧ a.y ≤ n)
theorem zb7 (L : List Int) (k : Nat) : InS (-100) 299 (ZG L k) ∧ 0 ≤ (ZG L k).p ∧ (ZG L k).p ≤ 255 := by
 have h1 := yl L (6 + 3 * k) (m := 400) (by omega)
 have h2 := yl L (7 + 3 * k) (m := 400) (by omega)
 have h3 := yl L (8 + 3 * k) (m := 256) (by omega)
 unfold ZG InS
 simp only
 omega
theorem zgj (L : List Int) : ∀ a ∈ (xB L).pts, InS (-100) 299 a ∧ 0 ≤ a.p ∧ a.p ≤ 255 := fun a ha => by
 obtain ⟨k, _, rfl⟩ := List.mem_map.1 ha
 exact zb7 L k
theorem wE (L : List Int) : (xB L).pts.length = madeN L := QO _ _
def zj5 : Rc := ⟨-3, -3, 4, 4⟩
theorem Wf.nil (R : Rc) : Wf R [] := fun e h => by cases h
theorem zaY (L : List Int) : (xB L).col.ok := wD _
theorem qM.neT {α : Type} {k : Nat} {T ST : TypeId} {E : Xz α k T ST} {B b : Nat} {v : Value} {ls : List α} {t : TypeId} {cs : Array Value} {w : World} (h : qM E B v ls w) (ha : zw t w b cs) (ht : t ≠ T) : ∀ g, v.ownBlock = some g → g ≠ b := fun g hg e => by
 obtain ⟨cur, hc⟩ := h.block hg
 subst e
 have := (show w.heap[g]? = _ from hc).symm.trans ha
 injection this with this
 injection this with _ this
 exact ht this.symm
def oIx (L : List Int) (val : Int) : Nat := (val % 65536 % (madeN L : Int)).toNat
def YT (n k : Nat) : List Sp := (List.range k).map fun j => ⟨((n + j : Nat) : Int), 0, 9⟩
def ofN (val : Int) : Nat := (64 + val % 2).toNat
def uJ (l : List Sp) (k : Nat) : List Sp := l ++ YT l.length k
theorem XQ (l : List Sp) (k : Nat) : (uJ l k).length = l.length + k := by unfold uJ YT; rw [List.length_append, List.length_map, List.length_range]
theorem WC (l : List Sp) (k : Nat) : uJ l (k + 1) = uJ l k ++ [⟨((l.length + k : Nat) : Int), 0, 9⟩] := by
 unfold uJ YT
 rw [List.range_succ, List.map_append, List.append_assoc]
 rfl
def Wy (s : jb) (c : Int) (i : Nat) (val : Int) : jb :=
 if c = 1 then { s with pts := s.pts.set i ⟨val, (jc s.pts i).y, (jc s.pts i).p⟩ }
 else if c = 2 then { s with pts := s.pts.set i ⟨(jc s.pts i).x, val, (jc s.pts i).p⟩ }
 else if c = 3 then { s with pts := s.pts.set i ⟨(jc s.pts i).x, (jc s.pts i).y, val⟩ }
 else if c = 4 then { s with rad := val }
 else if c = 5 then { s with spa := val }
 else if c = 6 then { s with pha := val }
 else if c = 7 then { s with pts := [] }
 else if c = 8 then { s with pts := uJ s.pts (ofN val - s.pts.length) }
 else s
def ofS (L : List Int) (how val : Int) : jb := Wy (xB L) (how % 16) (oIx L val) val
theorem zfS (s : jb) (c : Int) (i : Nat) (val : Int) (h : s.pts.length ≤ 6) : (Wy s c i val).pts.length ≤ 65 := by
 have hn : ofN val ≤ 65 := by unfold ofN; omega
 unfold Wy
 repeat' split
 all_goals try simp only [List.length_set, List.length_nil, XQ]
 all_goals omega
theorem zgq (L : List Int) (how val : Int) : (ofS L how val).pts.length ≤ 65 := zfS _ _ _ _ (by rw [wE]; exact (JY L).2)
theorem zfR (s : jb) (c : Int) (i : Nat) (val : Int) : (Wy s c i val).col = s.col := by
 unfold Wy
 repeat' split
 all_goals rfl
theorem zgp (L : List Int) (how val : Int) : (ofS L how val).col.ok := by unfold ofS; rw [zfR]; exact zaY L
def zjm : Option Value → Nat
 | some (.slice _ n _) => n
 | _ => 0
theorem zg2 (vL : Value) (L : List Int) (how val : Int) (S' : jb) (w : World) (ls : xh inE vL L w) (hn : L.length ≤ 17592186044416) (e : ofS L how val = S') : Calls Tryz.prog 14 #[.agg #[vL, .int .i64 how, .int .i64 val]] w fun e w' => ∃ v', e = .returned (.agg (jg v' S')) ∧ xh jf v' S'.pts w' ∧ Below w.heap.size w w' := by
 have B := Below.refl w.heap.size w
 obtain ⟨aL, cL, rfl, hcL⟩ := ls.len
 have mb := JY L
 have HLL := zo (wE L)
 have mlen : (xB L).pts.length ≤ 6 := by rw [wE]; exact mb.2
 have mlen1 : 1 ≤ (xB L).pts.length := by rw [wE]; exact mb.1
 have hV : bits .and .i64 val 65535 = val % 65536 := kz val 16 65535 rfl (by decide)
 have hV1 : bits .and .i64 val 1 = val % 2 := kz val 1 1 rfl (by decide)
 have hC : bits .and .i64 how 15 = how % 16 := kz how 4 15 rfl (by decide)
 have HI := zo (show oIx L val = (val % 65536 % ((xB L).pts.length : Int)).toNat from by unfold oIx; rw [wE])
 have HE := zo (show Wy (xB L) (how % 16) (oIx L val) val = S' from e)
 obtain ⟨i, hi⟩ : ∃ i, oIx L val = i := ⟨_, rfl⟩
 rw [hi] at HI HE
 have HMA := zo (fun w' (h : Below w.heap.size w w') => XJ (.slice aL L.length cL) L w' (ls.be h) hn)
 clear hi ls e mb HLL
 obtain ⟨s, hs⟩ : ∃ s, xB L = s := ⟨_, rfl⟩
 rw [hs] at mlen mlen1 HI HE HMA
 clear hs
 obtain ⟨n, zk⟩ : ∃ n : Nat, s.pts.length = n := ⟨_, rfl⟩
 rw [zk] at mlen mlen1 HI HMA
 have HLN := zo zk
 clear zk
 have e0 : (n : Int) ≠ 0 := by omega
 have e00 : ((n : Int) == 0) = false := by simp; omega
 have t1 : Int.tmod (val % 65536) (n : Int) = (i : Int) := by
  rw [Int.tmod_eq_emod_of_nonneg (by omega), HI.out]; exact (Int.toNat_of_nonneg (Int.emod_nonneg _ e0)).symm
 have hin : i < n := by
  rw [HI.out]; have := Int.emod_lt_of_pos (val % 65536) (show (0 : Int) < n by omega); omega
 obtain ⟨C, hCC⟩ : ∃ C, how % 16 = C := ⟨_, rfl⟩
 rw [hCC] at hC HE
 have hC0 : 0 ≤ C ∧ C ≤ 15 := by omega
 clear hCC HI
 go_enter func14, ntmps14
 go_upto_region 0 with fail
 refine wp_region_lit ?_
 (refine jd (t := 24) B ?_; clear B; intro b_r1 wn zb zd r1 za zf zk B)
 (refine jH (t := 30) (qn _ _ rfl) B ?_; clear B; intro b_r2 wn zb zd r2 za zf zk B; replace r1 := r1.be za)
 refine wpList_nil ?_
 have k1 : w.heap.size ≤ b_r1 := by omega
 have k2 : b_r1 < b_r2 := by have := r1.lt; omega
 have k3 := r2.lt
 go_upto_region 1 with fail
 obtain ⟨b0, hb0⟩ : ∃ n, n = wn.heap.size := ⟨_, rfl⟩
 have k4 : b_r2 < b0 := by omega
 have k5 : b_r1 < b0 := by omega
 have HB0 := zo hb0
 clear hb0
 refine qz 2 ?_
 refine xz (zE func15) (c := HMA.out _ B) (h := ?_)
 rintro e wn ⟨a3, c3, rfl, od, za⟩
 obtain ⟨zf, zg, B⟩ := zM B za
 replace r1 := r1.be za
 replace r2 := r2.be za
 rw [← HB0.out] at od
 refine ⟨_, rfl, ?_⟩
 simp only [zn]
 (have _ := od; refine jH (t := 30) (qn _ _ rfl) B ?_; clear B; intro b_r3 wn zb zd r3 za zf zk B; replace od := od.be za; replace r1 := r1.be za; replace r2 := r2.be za)
 (refine qZ (hone := (by simp [jg, Value.oneCell'])) r3 B ?_; have hnB := od.neT r3 (by decide); clear r3 B; intro wn r3 ze zf zg B; replace od := od.chgB ze hnB; clear hnB; replace r1 := r1.cg ze; replace r2 := r2.cg ze)
 refine wpList_nil ?_
 clear HMA HB0
 go_upto_region 2 with fail
 refine qz 5 ?_
 refine j1 underlying26 ?_
 refine z7 2 ?_
 go_upto_region 3 with fail
 refine zS 3 ?_
 have hPn : n = s.pts.length := HLN.out.symm
 have hiP : i < s.pts.length := by omega
 have HPX : Hid (jc s.pts i = ⟨(jc s.pts i).x, (jc s.pts i).y, (jc s.pts i).p⟩) := zo rfl
 have pcx := od.rs
 have oin : ∃ g, a3 = some ⟨g, 0, none⟩ := by
  obtain ⟨_, h2⟩ := od; rcases h2 with ⟨e, _⟩ | ⟨g', cap, cur, e, _⟩
  ·injection e with e1 e2 _
   omega
  ·injection e with e1 _ _
   exact ⟨g', e1⟩
 obtain ⟨g, rfl⟩ := oin
 have hgb : b0 ≤ g := (World.ownsRow.lt od g rfl).1
 have hg3 : g ≠ b_r3 := od.neT r3 (by decide) g rfl
 clear pcx
 have qs : C = 1 ∨ C = 2 ∨ C = 3 ∨ C = 4 ∨ C = 5 ∨ C = 6 ∨ C = 7 ∨ C = 8 ∨ (C ≠ 1 ∧ C ≠ 2 ∧ C ≠ 3 ∧ C ≠ 4 ∧ C ≠ 5 ∧ C ≠ 6 ∧ C ≠ 7 ∧ C ≠ 8) := by omega
 rcases qs with hx | hx | hx | hx | hx | hx | hx | hx | hx
 ·have HS := zo (show S' = ⟨s.pts.set i ⟨val, (jc s.pts i).y, (jc s.pts i).p⟩, s.rad, s.spa, s.col, s.era, s.pha⟩ from by rw [← HE.out]; rw [hx]; simp [Wy, HLN.out])
  have q1 : (C == 1) = true := by rw [hx]; rfl
  have p1 : decide (C = 1) = true := by rw [hx]; rfl
  have q2 : (C == 2) = false := by rw [hx]; rfl
  have p2 : decide (C = 2) = false := by rw [hx]; rfl
  have q3 : (C == 3) = false := by rw [hx]; rfl
  have p3 : decide (C = 3) = false := by rw [hx]; rfl
  have q4 : (C == 4) = false := by rw [hx]; rfl
  have p4 : decide (C = 4) = false := by rw [hx]; rfl
  have q5 : (C == 5) = false := by rw [hx]; rfl
  have p5 : decide (C = 5) = false := by rw [hx]; rfl
  have q6 : (C == 6) = false := by rw [hx]; rfl
  have p6 : decide (C = 6) = false := by rw [hx]; rfl
  have q7 : (C == 7) = false := by rw [hx]; rfl
  have p7 : decide (C = 7) = false := by rw [hx]; rfl
  have q8 : (C == 8) = false := by rw [hx]; rfl
  have p8 : decide (C = 8) = false := by rw [hx]; rfl
  clear HE hx hC0; go_upto_region 4 with fail
  refine zS 2 ?_; go_upto_region 5 with fail
  refine qz 7 ?_
  (refine ki rfl _ _ rfl _ _ rfl _ rfl od hPn i 0 hiP (by omega) (by omega) ⟨val, (jc s.pts i).y, (jc s.pts i).p⟩ (by rw [HPX.out]; rfl) ?_; clear od; intro wn od ze zg; have zf := B.size; replace zg := Nat.le_of_eq zg.symm; replace B := qY.be B ze (by omega) B.size; replace r1 := r1.cg ze; replace r2 := r2.cg ze; replace r3 := r3.cg ze; simp only [zn])
  refine wpList_nil ?_; go_upto_region 21 with fail
  refine qz 1 ?_
  (refine qZ (hone := (by simp [jg, Value.oneCell'])) r2 B ?_; clear r2 B; intro wn r2 ze zf zg B; replace od := od.chg ze (by omega); replace r1 := r1.cg ze; replace r3 := r3.cg ze)
  refine wpList_nil ?_; first | (refine qO r2 ?_) | (go_step; refine qO r2 ?_) | (go_step; go_step; refine qO r2 ?_) | (go_step; go_step; go_step; refine qO r2 ?_) | (go_step; go_step; go_step; go_step; refine qO r2 ?_) | (go_step; go_step; go_step; go_step; go_step; refine qO r2 ?_)
  rw [HS.out]; exact ⟨_, rfl, od.rs, B⟩
 ·have HS := zo (show S' = ⟨s.pts.set i ⟨(jc s.pts i).x, val, (jc s.pts i).p⟩, s.rad, s.spa, s.col, s.era, s.pha⟩ from by rw [← HE.out]; rw [hx]; simp [Wy, HLN.out])
  have q1 : (C == 1) = false := by rw [hx]; rfl
  have p1 : decide (C = 1) = false := by rw [hx]; rfl
  have q2 : (C == 2) = true := by rw [hx]; rfl
  have p2 : decide (C = 2) = true := by rw [hx]; rfl
  have q3 : (C == 3) = false := by rw [hx]; rfl
  have p3 : decide (C = 3) = false := by rw [hx]; rfl
  have q4 : (C == 4) = false := by rw [hx]; rfl
  have p4 : decide (C = 4) = false := by rw [hx]; rfl
  have q5 : (C == 5) = false := by rw [hx]; rfl
  have p5 : decide (C = 5) = false := by rw [hx]; rfl
  have q6 : (C == 6) = false := by rw [hx]; rfl
  have p6 : decide (C = 6) = false := by rw [hx]; rfl
  have q7 : (C == 7) = false := by rw [hx]; rfl
  have p7 : decide (C = 7) = false := by rw [hx]; rfl
  have q8 : (C == 8) = false := by rw [hx]; rfl
  have p8 : decide (C = 8) = false := by rw [hx]; rfl
  clear HE hx hC0; go_upto_region 4 with fail
  refine zS 2 ?_; go_upto_region 6 with fail
  refine zS 2 ?_; go_upto_region 7 with fail
  refine qz 7 ?_
  (refine ki rfl _ _ rfl _ _ rfl _ rfl od hPn i 1 hiP (by omega) (by omega) ⟨(jc s.pts i).x, val, (jc s.pts i).p⟩ (by rw [HPX.out]; rfl) ?_; clear od; intro wn od ze zg; have zf := B.size; replace zg := Nat.le_of_eq zg.symm; replace B := qY.be B ze (by omega) B.size; replace r1 := r1.cg ze; replace r2 := r2.cg ze; replace r3 := r3.cg ze; simp only [zn])
  refine wpList_nil ?_; go_upto_region 21 with fail
  refine qz 1 ?_
  (refine qZ (hone := (by simp [jg, Value.oneCell'])) r2 B ?_; clear r2 B; intro wn r2 ze zf zg B; replace od := od.chg ze (by omega); replace r1 := r1.cg ze; replace r3 := r3.cg ze)
  refine wpList_nil ?_; first | (refine qO r2 ?_) | (go_step; refine qO r2 ?_) | (go_step; go_step; refine qO r2 ?_) | (go_step; go_step; go_step; refine qO r2 ?_) | (go_step; go_step; go_step; go_step; refine qO r2 ?_) | (go_step; go_step; go_step; go_step; go_step; refine qO r2 ?_)
  rw [HS.out]; exact ⟨_, rfl, od.rs, B⟩
 ·have HS := zo (show S' = ⟨s.pts.set i ⟨(jc s.pts i).x, (jc s.pts i).y, val⟩, s.rad, s.spa, s.col, s.era, s.pha⟩ from by rw [← HE.out]; rw [hx]; simp [Wy, HLN.out])
  have q1 : (C == 1) = false := by rw [hx]; rfl
  have p1 : decide (C = 1) = false := by rw [hx]; rfl
  have q2 : (C == 2) = false := by rw [hx]; rfl
  have p2 : decide (C = 2) = false := by rw [hx]; rfl
  have q3 : (C == 3) = true := by rw [hx]; rfl
  have p3 : decide (C = 3) = true := by rw [hx]; rfl
  have q4 : (C == 4) = false := by rw [hx]; rfl
  have p4 : decide (C = 4) = false := by rw [hx]; rfl
  have q5 : (C == 5) = false := by rw [hx]; rfl
  have p5 : decide (C = 5) = false := by rw [hx]; rfl
  have q6 : (C == 6) = false := by rw [hx]; rfl
  have p6 : decide (C = 6) = false := by rw [hx]; rfl
  have q7 : (C == 7) = false := by rw [hx]; rfl
  have p7 : decide (C = 7) = false := by rw [hx]; rfl
  have q8 : (C == 8) = false := by rw [hx]; rfl
  have p8 : decide (C = 8) = false := by rw [hx]; rfl
  clear HE hx hC0; go_upto_region 4 with fail
  refine zS 2 ?_; go_upto_region 6 with fail
  refine zS 2 ?_; go_upto_region 8 with fail
  refine zS 2 ?_; go_upto_region 9 with fail
  refine qz 7 ?_
  (refine ki rfl _ _ rfl _ _ rfl _ rfl od hPn i 2 hiP (by omega) (by omega) ⟨(jc s.pts i).x, (jc s.pts i).y, val⟩ (by rw [HPX.out]; rfl) ?_; clear od; intro wn od ze zg; have zf := B.size; replace zg := Nat.le_of_eq zg.symm; replace B := qY.be B ze (by omega) B.size; replace r1 := r1.cg ze; replace r2 := r2.cg ze; replace r3 := r3.cg ze; simp only [zn])
  refine wpList_nil ?_; go_upto_region 21 with fail
  refine qz 1 ?_
  (refine qZ (hone := (by simp [jg, Value.oneCell'])) r2 B ?_; clear r2 B; intro wn r2 ze zf zg B; replace od := od.chg ze (by omega); replace r1 := r1.cg ze; replace r3 := r3.cg ze)
  refine wpList_nil ?_; first | (refine qO r2 ?_) | (go_step; refine qO r2 ?_) | (go_step; go_step; refine qO r2 ?_) | (go_step; go_step; go_step; refine qO r2 ?_) | (go_step; go_step; go_step; go_step; refine qO r2 ?_) | (go_step; go_step; go_step; go_step; go_step; refine qO r2 ?_)
  rw [HS.out]; exact ⟨_, rfl, od.rs, B⟩
 ·have HS := zo (show S' = ⟨s.pts, val, s.spa, s.col, s.era, s.pha⟩ from by rw [← HE.out]; rw [hx]; simp [Wy, HLN.out])
  have q1 : (C == 1) = false := by rw [hx]; rfl
  have p1 : decide (C = 1) = false := by rw [hx]; rfl
  have q2 : (C == 2) = false := by rw [hx]; rfl
  have p2 : decide (C = 2) = false := by rw [hx]; rfl
  have q3 : (C == 3) = false := by rw [hx]; rfl
  have p3 : decide (C = 3) = false := by rw [hx]; rfl
  have q4 : (C == 4) = true := by rw [hx]; rfl
  have p4 : decide (C = 4) = true := by rw [hx]; rfl
  have q5 : (C == 5) = false := by rw [hx]; rfl
  have p5 : decide (C = 5) = false := by rw [hx]; rfl
  have q6 : (C == 6) = false := by rw [hx]; rfl
  have p6 : decide (C = 6) = false := by rw [hx]; rfl
  have q7 : (C == 7) = false := by rw [hx]; rfl
  have p7 : decide (C = 7) = false := by rw [hx]; rfl
  have q8 : (C == 8) = false := by rw [hx]; rfl
  have p8 : decide (C = 8) = false := by rw [hx]; rfl
  clear HE hx hC0; go_upto_region 4 with fail
  refine zS 2 ?_; go_upto_region 6 with fail
  refine zS 2 ?_; go_upto_region 8 with fail
  refine zS 2 ?_; go_upto_region 10 with fail
  refine zS 2 ?_; go_upto_region 11 with fail
  refine qz 3 ?_
  (refine xr (t := 30) rfl _ _ rfl _ 1 rfl _ rfl r3 rfl (xV B (by omega) ?_); have hnB := od.neT r3 (by decide); clear r3 B; intro wn r3 ze zf zg B; replace od := od.chgB ze hnB; clear hnB; replace r1 := r1.cg ze; replace r2 := r2.cg ze; simp only [zn])
  refine wpList_nil ?_; replace r3 : zw 30 _ b_r3 (jg (.slice (some ⟨g, 0, none⟩) n c3) ⟨s.pts, val, s.spa, s.col, s.era, s.pha⟩) := r3; go_upto_region 21 with fail
  refine qz 1 ?_
  (refine qZ (hone := (by simp [jg, Value.oneCell'])) r2 B ?_; clear r2 B; intro wn r2 ze zf zg B; replace od := od.chg ze (by omega); replace r1 := r1.cg ze; replace r3 := r3.cg ze)
  refine wpList_nil ?_; first | (refine qO r2 ?_) | (go_step; refine qO r2 ?_) | (go_step; go_step; refine qO r2 ?_) | (go_step; go_step; go_step; refine qO r2 ?_) | (go_step; go_step; go_step; go_step; refine qO r2 ?_) | (go_step; go_step; go_step; go_step; go_step; refine qO r2 ?_)
  rw [HS.out]; exact ⟨_, rfl, od.rs, B⟩
 ·have HS := zo (show S' = ⟨s.pts, s.rad, val, s.col, s.era, s.pha⟩ from by rw [← HE.out]; rw [hx]; simp [Wy, HLN.out])
  have q1 : (C == 1) = false := by rw [hx]; rfl
  have p1 : decide (C = 1) = false := by rw [hx]; rfl
  have q2 : (C == 2) = false := by rw [hx]; rfl
  have p2 : decide (C = 2) = false := by rw [hx]; rfl
  have q3 : (C == 3) = false := by rw [hx]; rfl
  have p3 : decide (C = 3) = false := by rw [hx]; rfl
  have q4 : (C == 4) = false := by rw [hx]; rfl
  have p4 : decide (C = 4) = false := by rw [hx]; rfl
  have q5 : (C == 5) = true := by rw [hx]; rfl
  have p5 : decide (C = 5) = true := by rw [hx]; rfl
  have q6 : (C == 6) = false := by rw [hx]; rfl
  have p6 : decide (C = 6) = false := by rw [hx]; rfl
  have q7 : (C == 7) = false := by rw [hx]; rfl
  have p7 : decide (C = 7) = false := by rw [hx]; rfl
  have q8 : (C == 8) = false := by rw [hx]; rfl
  have p8 : decide (C = 8) = false := by rw [hx]; rfl
  clear HE hx hC0; go_upto_region 4 with fail
  refine zS 2 ?_; go_upto_region 6 with fail
  refine zS 2 ?_; go_upto_region 8 with fail
  refine zS 2 ?_; go_upto_region 10 with fail
  refine zS 2 ?_; go_upto_region 12 with fail
  refine zS 2 ?_; go_upto_region 13 with fail
  refine qz 3 ?_
  (refine xr (t := 30) rfl _ _ rfl _ 2 rfl _ rfl r3 rfl (xV B (by omega) ?_); have hnB := od.neT r3 (by decide); clear r3 B; intro wn r3 ze zf zg B; replace od := od.chgB ze hnB; clear hnB; replace r1 := r1.cg ze; replace r2 := r2.cg ze; simp only [zn])
  refine wpList_nil ?_; replace r3 : zw 30 _ b_r3 (jg (.slice (some ⟨g, 0, none⟩) n c3) ⟨s.pts, s.rad, val, s.col, s.era, s.pha⟩) := r3; go_upto_region 21 with fail
  refine qz 1 ?_
  (refine qZ (hone := (by simp [jg, Value.oneCell'])) r2 B ?_; clear r2 B; intro wn r2 ze zf zg B; replace od := od.chg ze (by omega); replace r1 := r1.cg ze; replace r3 := r3.cg ze)
  refine wpList_nil ?_; first | (refine qO r2 ?_) | (go_step; refine qO r2 ?_) | (go_step; go_step; refine qO r2 ?_) | (go_step; go_step; go_step; refine qO r2 ?_) | (go_step; go_step; go_step; go_step; refine qO r2 ?_) | (go_step; go_step; go_step; go_step; go_step; refine qO r2 ?_)
  rw [HS.out]; exact ⟨_, rfl, od.rs, B⟩
 ·have HS := zo (show S' = ⟨s.pts, s.rad, s.spa, s.col, s.era, val⟩ from by rw [← HE.out]; rw [hx]; simp [Wy, HLN.out])
  have q1 : (C == 1) = false := by rw [hx]; rfl
  have p1 : decide (C = 1) = false := by rw [hx]; rfl
  have q2 : (C == 2) = false := by rw [hx]; rfl
  have p2 : decide (C = 2) = false := by rw [hx]; rfl
  have q3 : (C == 3) = false := by rw [hx]; rfl
  have p3 : decide (C = 3) = false := by rw [hx]; rfl
  have q4 : (C == 4) = false := by rw [hx]; rfl
  have p4 : decide (C = 4) = false := by rw [hx]; rfl
  have q5 : (C == 5) = false := by rw [hx]; rfl
  have p5 : decide (C = 5) = false := by rw [hx]; rfl
  have q6 : (C == 6) = true := by rw [hx]; rfl
  have p6 : decide (C = 6) = true := by rw [hx]; rfl
  have q7 : (C == 7) = false := by rw [hx]; rfl
  have p7 : decide (C = 7) = false := by rw [hx]; rfl
  have q8 : (C == 8) = false := by rw [hx]; rfl
  have p8 : decide (C = 8) = false := by rw [hx]; rfl
  clear HE hx hC0; go_upto_region 4 with fail
  refine zS 2 ?_; go_upto_region 6 with fail
  refine zS 2 ?_; go_upto_region 8 with fail
  refine zS 2 ?_; go_upto_region 10 with fail
  refine zS 2 ?_; go_upto_region 12 with fail
  refine zS 2 ?_; go_upto_region 14 with fail
  refine zS 2 ?_; go_upto_region 15 with fail
  refine qz 3 ?_
  (refine xr (t := 30) rfl _ _ rfl _ 8 rfl _ rfl r3 rfl (xV B (by omega) ?_); have hnB := od.neT r3 (by decide); clear r3 B; intro wn r3 ze zf zg B; replace od := od.chgB ze hnB; clear hnB; replace r1 := r1.cg ze; replace r2 := r2.cg ze; simp only [zn])
  refine wpList_nil ?_; replace r3 : zw 30 _ b_r3 (jg (.slice (some ⟨g, 0, none⟩) n c3) ⟨s.pts, s.rad, s.spa, s.col, s.era, val⟩) := r3; go_upto_region 21 with fail
  refine qz 1 ?_
  (refine qZ (hone := (by simp [jg, Value.oneCell'])) r2 B ?_; clear r2 B; intro wn r2 ze zf zg B; replace od := od.chg ze (by omega); replace r1 := r1.cg ze; replace r3 := r3.cg ze)
  refine wpList_nil ?_; first | (refine qO r2 ?_) | (go_step; refine qO r2 ?_) | (go_step; go_step; refine qO r2 ?_) | (go_step; go_step; go_step; refine qO r2 ?_) | (go_step; go_step; go_step; go_step; refine qO r2 ?_) | (go_step; go_step; go_step; go_step; go_step; refine qO r2 ?_)
  rw [HS.out]; exact ⟨_, rfl, od.rs, B⟩
 ·have HS := zo (show S' = ⟨[], s.rad, s.spa, s.col, s.era, s.pha⟩ from by rw [← HE.out]; rw [hx]; simp [Wy, HLN.out])
  have q1 : (C == 1) = false := by rw [hx]; rfl
  have p1 : decide (C = 1) = false := by rw [hx]; rfl
  have q2 : (C == 2) = false := by rw [hx]; rfl
  have p2 : decide (C = 2) = false := by rw [hx]; rfl
  have q3 : (C == 3) = false := by rw [hx]; rfl
  have p3 : decide (C = 3) = false := by rw [hx]; rfl
  have q4 : (C == 4) = false := by rw [hx]; rfl
  have p4 : decide (C = 4) = false := by rw [hx]; rfl
  have q5 : (C == 5) = false := by rw [hx]; rfl
  have p5 : decide (C = 5) = false := by rw [hx]; rfl
  have q6 : (C == 6) = false := by rw [hx]; rfl
  have p6 : decide (C = 6) = false := by rw [hx]; rfl
  have q7 : (C == 7) = true := by rw [hx]; rfl
  have p7 : decide (C = 7) = true := by rw [hx]; rfl
  have q8 : (C == 8) = false := by rw [hx]; rfl
  have p8 : decide (C = 8) = false := by rw [hx]; rfl
  clear HE hx hC0; go_upto_region 4 with fail
  refine zS 2 ?_; go_upto_region 6 with fail
  refine zS 2 ?_; go_upto_region 8 with fail
  refine zS 2 ?_; go_upto_region 10 with fail
  refine zS 2 ?_; go_upto_region 12 with fail
  refine zS 2 ?_; go_upto_region 14 with fail
  refine zS 2 ?_; go_upto_region 16 with fail
  refine zS 2 ?_; go_upto_region 17 with fail
  refine qz 1 ?_
  (refine yg (t := 30) rfl _ _ rfl _ 0 rfl _ _ _ rfl r3 rfl (xV B (by omega) ?_); have hnB := od.neT r3 (by decide); clear r3 B; intro wn r3 ze zf zg B; replace od := od.chgB ze hnB; clear hnB; replace r1 := r1.cg ze; replace r2 := r2.cg ze; simp only [zn])
  refine wpList_nil ?_; replace r3 : zw 30 _ b_r3 (jg (.slice none 0 0) ⟨[], s.rad, s.spa, s.col, s.era, s.pha⟩) := r3; go_upto_region 21 with fail
  refine qz 1 ?_
  (refine qZ (hone := (by simp [jg, Value.oneCell'])) r2 B ?_; clear r2 B; intro wn r2 ze zf zg B; replace od := od.chg ze (by omega); replace r1 := r1.cg ze; replace r3 := r3.cg ze)
  refine wpList_nil ?_; first | (refine qO r2 ?_) | (go_step; refine qO r2 ?_) | (go_step; go_step; refine qO r2 ?_) | (go_step; go_step; go_step; refine qO r2 ?_) | (go_step; go_step; go_step; go_step; refine qO r2 ?_) | (go_step; go_step; go_step; go_step; go_step; refine qO r2 ?_)
  rw [HS.out]; exact ⟨_, rfl, (qM.nil (E := jf) 0 _).rs, B⟩
 ·have HS := zo (show S' = ⟨uJ s.pts (ofN val - n), s.rad, s.spa, s.col, s.era, s.pha⟩ from by rw [← HE.out]; rw [hx]; simp [Wy, HLN.out])
  have q1 : (C == 1) = false := by rw [hx]; rfl
  have p1 : decide (C = 1) = false := by rw [hx]; rfl
  have q2 : (C == 2) = false := by rw [hx]; rfl
  have p2 : decide (C = 2) = false := by rw [hx]; rfl
  have q3 : (C == 3) = false := by rw [hx]; rfl
  have p3 : decide (C = 3) = false := by rw [hx]; rfl
  have q4 : (C == 4) = false := by rw [hx]; rfl
  have p4 : decide (C = 4) = false := by rw [hx]; rfl
  have q5 : (C == 5) = false := by rw [hx]; rfl
  have p5 : decide (C = 5) = false := by rw [hx]; rfl
  have q6 : (C == 6) = false := by rw [hx]; rfl
  have p6 : decide (C = 6) = false := by rw [hx]; rfl
  have q7 : (C == 7) = false := by rw [hx]; rfl
  have p7 : decide (C = 7) = false := by rw [hx]; rfl
  have q8 : (C == 8) = true := by rw [hx]; rfl
  have p8 : decide (C = 8) = true := by rw [hx]; rfl
  clear HE hx hC0; go_upto_region 4 with fail
  refine zS 2 ?_; go_upto_region 6 with fail
  refine zS 2 ?_; go_upto_region 8 with fail
  refine zS 2 ?_; go_upto_region 10 with fail
  refine zS 2 ?_; go_upto_region 12 with fail
  refine zS 2 ?_; go_upto_region 14 with fail
  refine zS 2 ?_; go_upto_region 16 with fail
  refine zS 2 ?_; go_upto_region 18 with fail
  refine zS 2 ?_; have hT : (ofN val : Int) = 64 + val % 2 := by unfold ofN; omega
  have HT := zo hT; obtain ⟨T, hTT⟩ : ∃ T, ofN val = T := ⟨_, rfl⟩; rw [hTT] at HT HS; clear hT hTT; have hTb : 64 ≤ T ∧ T ≤ 65 := by have := HT.out; omega
  have k6 : b0 ≤ wn.heap.size := by have := (World.ownsRow.lt od g rfl).2; omega
  clear q1 q2 q3 q4 q5 q6 q7 q8 p1 p2 p3 p4 p5 p6 p7 p8 hg3 hgb; go_wp2; go_loopw [] (fun wr => ∃ (k m cp : Nat) (ad : Option Addr) (P : List Sp), Hid (m = n + k) ∧ m ≤ T ∧ Hid (uJ s.pts k = P) ∧ Below w.heap.size w wr ∧ b0 ≤ wr.heap.size ∧ zw 24 wr b_r1 #[.slice aL L.length cL, .int .i64 how, .int .i64 val] ∧ zw 30 wr b_r2 #[.slice none 0 0, .int .i64 0, .int .i64 0, .int .u8 0, .int .u8 0, .int .u8 0, .int .u8 0, .bool false, .int .i64 0] ∧ zw 30 wr b_r3 (jg (.slice ad m cp) s) ∧ qM jf b0 (.slice ad m cp) P wr) (fun wr => T - zjm (wr.cell? ⟨b_r3, 0, none⟩))
  case atStart => exact ⟨0, n, c3, _, s.pts, zo (by omega), by omega, zo (by simp [uJ, YT]), B, k6, r1, r2, r3, od⟩
  case round =>
   clear B r1 r2 r3 od k6; obtain ⟨k, m, cp, ad, P, Hm, hmT, HP, B, k6, r1, r2, r3, od⟩ := hrel; have hmP : P.length = m := by rw [← HP.out, XQ, Hm.out, HLN.out]
   have hPm := zo (show m = P.length from hmP.symm); have HPM := zo (show (P ++ [(⟨(m : Int), 0, 9⟩ : Sp)]).length = m + 1 from by rw [List.length_append, hmP]; rfl)
   have hPlen : P.length ≤ 65 := by omega
   have HOLD := zo (zbd r3); clear hmP; by_cases zh : m < T
   ·have hmb : (m : Int) < 64 + val % 2 := by have := HT.out; omega
    have q1 : decide ((m : Int) < 64 + val % 2) = true := zQ hmb; have vb : 0 ≤ val % 2 ∧ val % 2 ≤ 1 := by omega
    have HNX := zo (show uJ s.pts (k + 1) = P ++ [⟨(m : Int), 0, 9⟩] from by rw [WC, HP.out, HLN.out, ← Hm.out]); go_upto_region 19 with fail
    refine qz 2 ?_
    refine j1 underlying26 ?_; refine z7 5 ?_; go_upto_region 20 with fail
    refine qz 4 ?_
    refine j1 underlying26 ?_
    (refine qH rfl (.agg #[.int .i64 (m : Int), .int .i64 0, .int .i64 9]) (by first | rfl | kernel_rfl | simp [go_sem, Act.eval]) ?_; simp only [zn])
    (refine yd (E := jf) rfl _ rfl (⟨(m : Int), 0, 9⟩) rfl (by omega) (kn B ?_); clear B; intro b_s79 wn zb zd s79 za zf zk B; replace od := od.be (za.mono zb); replace r1 := r1.be (za.mono zb); replace r2 := r2.be (za.mono zb); replace r3 := r3.be (za.mono zb); simp only [zn])
    (refine uS rfl _ _ rfl _ _ rfl rfl od (xh.one s79) (by simp only [List.length_cons, List.length_nil]; omega) (by omega) ?_; intro v_od wn ht hg; have zf := B.size; have hbz := hg.size; replace B := wu B zf hg (fun r e => by have := (World.ownsRow.lt od r e).1; omega); replace r1 := r1.grown hg (fun e => od.neT r1 (by decide) _ e rfl); replace r2 := r2.grown hg (fun e => od.neT r2 (by decide) _ e rfl); replace r3 := r3.grown hg (fun e => od.neT r3 (by decide) _ e rfl); clear od s79 hg; have od := ht; clear ht; obtain ⟨a_od, c_od, hv, hco⟩ := od.len; rw [HPM.out] at hv; subst hv; simp only [zn])
    refine jL 1 ?_
    (refine yg (t := 30) rfl _ _ rfl _ 0 rfl _ _ _ rfl r3 rfl (xV B (by omega) ?_); have hnB := od.neT r3 (by decide); clear r3 B; intro wn r3 ze zf zg B; replace od := od.chgB ze hnB; clear hnB; replace r1 := r1.cg ze; replace r2 := r2.cg ze; simp only [zn])
    refine wpList_nil ?_; replace r3 : zw 30 _ b_r3 (jg (.slice a_od (m + 1) c_od) s) := r3; have HNEW := zo (zbd r3); go_wp2; go_roundw
    case rel => exact ⟨k + 1, m + 1, _, _, P ++ [⟨(m : Int), 0, 9⟩], zo (by rw [Hm.out]; omega), by omega, HNX, B, by omega, r1, r2, r3, od⟩
    case measure => rw [HOLD.out, HNEW.out]; show T - (m + 1) < T - m; omega
   ·have hmb : ¬ (m : Int) < 64 + val % 2 := by have := HT.out; omega
    have q1 : decide ((m : Int) < 64 + val % 2) = false := zB hmb; have vb : 0 ≤ val % 2 ∧ val % 2 ≤ 1 := by omega
    have HFI := zo (show uJ s.pts (T - n) = P from by rw [← HP.out]; congr 1; have := Hm.out; omega)
    go_upto_region 19 with fail
    refine qz 2 ?_
    refine j1 underlying26 ?_; refine z7 5 ?_; go_upto_region 21 with fail
    refine qz 1 ?_
    (refine qZ (hone := (by simp [jg, Value.oneCell'])) r2 B ?_; clear r2 B; intro wn r2 ze zf zg B; replace od := od.chg ze (by omega); replace r3 := r3.cg ze)
    refine wpList_nil ?_; first | (refine qO r2 ?_) | (go_step; refine qO r2 ?_) | (go_step; go_step; refine qO r2 ?_) | (go_step; go_step; go_step; refine qO r2 ?_) | (go_step; go_step; go_step; go_step; refine qO r2 ?_) | (go_step; go_step; go_step; go_step; go_step; refine qO r2 ?_)
    rw [HS.out, HFI.out]; exact ⟨_, rfl, od.rs, B⟩
 ·have HS := zo (show S' = s from by rw [← HE.out]; obtain ⟨h1, h2, h3, h4, h5, h6, h7, h8⟩ := hx; simp [Wy, h1, h2, h3, h4, h5, h6, h7, h8])
  have q1 : (C == 1) = false := by obtain ⟨h1, h2, h3, h4, h5, h6, h7, h8⟩ := hx; simp [h1]
  have p1 : decide (C = 1) = false := by obtain ⟨h1, h2, h3, h4, h5, h6, h7, h8⟩ := hx; simp [h1]
  have q2 : (C == 2) = false := by obtain ⟨h1, h2, h3, h4, h5, h6, h7, h8⟩ := hx; simp [h2]
  have p2 : decide (C = 2) = false := by obtain ⟨h1, h2, h3, h4, h5, h6, h7, h8⟩ := hx; simp [h2]
  have q3 : (C == 3) = false := by obtain ⟨h1, h2, h3, h4, h5, h6, h7, h8⟩ := hx; simp [h3]
  have p3 : decide (C = 3) = false := by obtain ⟨h1, h2, h3, h4, h5, h6, h7, h8⟩ := hx; simp [h3]
  have q4 : (C == 4) = false := by obtain ⟨h1, h2, h3, h4, h5, h6, h7, h8⟩ := hx; simp [h4]
  have p4 : decide (C = 4) = false := by obtain ⟨h1, h2, h3, h4, h5, h6, h7, h8⟩ := hx; simp [h4]
  have q5 : (C == 5) = false := by obtain ⟨h1, h2, h3, h4, h5, h6, h7, h8⟩ := hx; simp [h5]
  have p5 : decide (C = 5) = false := by obtain ⟨h1, h2, h3, h4, h5, h6, h7, h8⟩ := hx; simp [h5]
  have q6 : (C == 6) = false := by obtain ⟨h1, h2, h3, h4, h5, h6, h7, h8⟩ := hx; simp [h6]
  have p6 : decide (C = 6) = false := by obtain ⟨h1, h2, h3, h4, h5, h6, h7, h8⟩ := hx; simp [h6]
  have q7 : (C == 7) = false := by obtain ⟨h1, h2, h3, h4, h5, h6, h7, h8⟩ := hx; simp [h7]
  have p7 : decide (C = 7) = false := by obtain ⟨h1, h2, h3, h4, h5, h6, h7, h8⟩ := hx; simp [h7]
  have q8 : (C == 8) = false := by obtain ⟨h1, h2, h3, h4, h5, h6, h7, h8⟩ := hx; simp [h8]
  have p8 : decide (C = 8) = false := by obtain ⟨h1, h2, h3, h4, h5, h6, h7, h8⟩ := hx; simp [h8]
  clear HE hx hC0; go_upto_region 4 with fail
  refine zS 2 ?_; go_upto_region 6 with fail
  refine zS 2 ?_; go_upto_region 8 with fail
  refine zS 2 ?_; go_upto_region 10 with fail
  refine zS 2 ?_; go_upto_region 12 with fail
  refine zS 2 ?_; go_upto_region 14 with fail
  refine zS 2 ?_; go_upto_region 16 with fail
  refine zS 2 ?_; go_upto_region 18 with fail
  refine zS 2 ?_; go_upto_region 21 with fail
  refine qz 1 ?_
  (refine qZ (hone := (by simp [jg, Value.oneCell'])) r2 B ?_; clear r2 B; intro wn r2 ze zf zg B; replace od := od.chg ze (by omega))
  refine wpList_nil ?_; first | (refine qO r2 ?_) | (go_step; refine qO r2 ?_) | (go_step; go_step; refine qO r2 ?_) | (go_step; go_step; go_step; refine qO r2 ?_) | (go_step; go_step; go_step; go_step; refine qO r2 ?_) | (go_step; go_step; go_step; go_step; go_step; refine qO r2 ?_)
  rw [HS.out]; exact ⟨_, rfl, od.rs, B⟩
theorem zfl (vL : Value) (L : List Int) (how val : Int) (S' : jb) (w : World) (ls : xh inE vL L w) (hn : L.length ≤ 17592186044416) (e : ofS L how val = S') : Calls Tryz.prog 14 #[.agg #[vL, .int .i64 how, .int .i64 val]] w fun e w' => ∃ a c, e = .returned (.agg (jg (.slice a S'.pts.length c) S')) ∧ xh jf (.slice a S'.pts.length c) S'.pts w' ∧ Below w.heap.size w w' :=
 (zg2 vL L how val S' w ls hn e).mono fun e w' ⟨v', h1, h2, h3⟩ => by
  obtain ⟨a, c, rfl, _⟩ := h2.len; exact ⟨_, _, h1, h2, h3⟩
def zka (s : jb) : jb := { s with era := true }
def zkw (s : jb) : jb := { s with era := false, col := ⟨s.col.r, s.col.g, s.col.b, 255⟩ }
def zkD (p : Int × Int) : Rc := ⟨8 * p.1, 8 * p.2, 8 * p.1 + 8, 8 * p.2 + 8⟩
def zj4 (X Y : Int) : Rc := ⟨(X - 11) / 8, (Y - 11) / 8, (X + 22) / 8 + 1, (Y + 22) / 8 + 1⟩
def zkd : Value → Nat
 | .slice _ n _ => n
 | _ => 0
theorem J3 {s : jb} (hc : s.col.ok) {ls : List TA} (ht : qQ ls) {K : List TA} {E : Int} (e : jF s ls = (K, E)) : K.length ≤ maxLen ∧ ql K = true ∧ qQ K := by
 have h := QQ hc ht (s := s)
 rw [e] at h
 have h1 : ql K = true := h.1
 have h2 : qQ K := h.2
 have := (xp.1 h1).1
 exact ⟨by unfold maxLen; omega, h1, h2⟩
theorem KP (v u : Value) (ls ks : List TA) (b : Bool) (w : World) (h : RS v ls w) (h' : RS u ks w) (tk : qQ ls) (tk' : qQ ks) (hn : ls.length ≤ maxLen) (hn' : ks.length ≤ maxLen) (e : eqL (qh ls) (qh ks) = b) : Calls Tryz.prog 40 #[.agg #[v], .agg #[u]] w fun e w' => e = .returned (.bool b) ∧ Below w.heap.size w w' := e ▸ zfH v u ls ks w h h' tk tk' hn hn'
section
variable {α : Type} {k : Nat} {T ST : TypeId} {E : Xz α k T ST} {o : Oper} {a : Act} {w : World} {Q : Exit → Act → World → Prop}
end
def zj8 (D : List Db) : j2 := ⟨Option Addr × Nat, ⟨(none, 0)⟩, fun p => .slice p.1 D.length p.2, fun p w => xh kA (.slice p.1 D.length p.2) D w, fun _ _ _ hb h => h.be hb⟩
def zjK (B : Nat) : j2 := ⟨Nat, ⟨0⟩, fun b => .slice (some ⟨b, 0, none⟩) 0 0, fun b w => qM kA B (.slice (some ⟨b, 0, none⟩) 0 0) [] w, fun _ _ _ hb h => h.be hb⟩
def zj9 (B : Nat) (D : List Db) : j2 := ⟨Option Addr × Nat, ⟨(none, 0)⟩, fun p => .slice p.1 D.length p.2, fun p w => qM kA B (.slice p.1 D.length p.2) D w, fun _ _ _ hb h => h.be hb⟩
def zkB (s : jb) (z : Int) : jb × jb × Int := if jT s = true ∧ 1 ≤ z ∧ z + 2 ≤ s.pts.length then (spA s z.toNat, spB s z.toNat, 0) else (jb.none, jb.none, 1)
section
variable {t : TypeId} {w : World} {b : Nat} {v u : Value} {s r : jb} {n : Int}
end
def WE (s : jb) : Bool := decide ((yY s).length > 80) || (decide (s.rad > 100) && jT s)
theorem zbi (v : Value) (s : jb) (b : Bool) (w : World) (rs : xh jf v s.pts w) (hn : s.pts.length ≤ 17592186044416) (e : WE s = b) : Calls Tryz.prog 37 #[.agg (jg v s)] w fun e w' => e = .returned (.bool b) ∧ Below w.heap.size w w' := by
 have B := Below.refl w.heap.size w
 obtain ⟨a, c, rfl, hc⟩ := rs.len
 unfold WE at e
 obtain ⟨D, hD⟩ : ∃ D, yY s = D := ⟨_, rfl⟩
 obtain ⟨vb, hv⟩ : ∃ b, jT s = b := ⟨_, rfl⟩
 rw [hD, hv] at e
 have HD := zo hD
 have HV := zo hv
 clear hD hv
 have E := zo e
 clear e
 go_enter func37, ntmps37
 go_upto_region 0 with fail
 refine wp_region_lit ?_
 (refine jd (t := 30) B ?_; clear B; intro b_r1 wn zb zd r1 za zf zk B; replace rs := rs.be za)
 refine z7 1 ?_
 go_upto_region 1 with fail
 by_cases h1 : D.length > 80
 ·have q1 : decide ((D.length : Int) > 80) = true := zQ (by omega)
  have q1' : decide (80 < (D.length : Int)) = true := zQ (by omega); have q1'' : decide (80 < D.length) = true := zQ h1; have HB : Hid (b = true) := zo (by rw [← E.out, zQ h1]; rfl)
  clear E; refine qz 1 ?_
  refine xz (zE func20) (c := ZS _ s D _ rs hn HD.out) (h := ?_); rintro e wn ⟨a4, c4, rfl, od, za⟩; obtain ⟨zf, zg, B⟩ := zM B za
  replace rs := rs.be za
  replace r1 := r1.be za
  clear od; refine ⟨_, rfl, ?_⟩; simp only [zn]; refine j1 underlying35 ?_; refine jL 7 ?_
  refine qm ?hs2_10 ?_
  case hs2_10 => kernel_rfl
  simp only [zn]; refine z7 3 ?_; go_wp2; go_ret; exact ⟨by have hb := HB.out; subst hb; rfl, B⟩
 ·have q1 : decide ((D.length : Int) > 80) = false := zB (by omega)
  have q1' : decide (80 < (D.length : Int)) = false := zB (by omega); have q1'' : decide (80 < D.length) = false := zB h1; by_cases h2 : s.rad > 100
  ·have q2 : decide (s.rad > 100) = true := zQ h2
   have q2' : decide (100 < s.rad) = true := zQ h2; have HB : Hid (b = vb) := zo (by rw [← E.out, zB h1, q2]; rfl)
   clear E; refine qz 1 ?_
   refine xz (zE func20) (c := ZS _ s D _ rs hn HD.out) (h := ?_); rintro e wn ⟨a4, c4, rfl, od, za⟩; obtain ⟨zf, zg, B⟩ := zM B za
   replace rs := rs.be za
   replace r1 := r1.be za
   clear od; refine ⟨_, rfl, ?_⟩; simp only [zn]; refine j1 underlying35 ?_; refine jL 7 ?_
   refine qe B (zE func17) (c := wo _ s vb _ rs hn HV.out) ?_; clear B; intro wn za zf zg B
   replace rs := rs.be za
   replace r1 := r1.be za; refine z7 3 ?_; go_wp2; go_ret; exact ⟨by have hb := HB.out; subst hb; rfl, B⟩
  ·have q2 : decide (s.rad > 100) = false := zB h2
   have q2' : decide (100 < s.rad) = false := zB h2; have HB : Hid (b = false) := zo (by rw [← E.out, zB h1, q2]; rfl)
   clear E; refine qz 1 ?_
   refine xz (zE func20) (c := ZS _ s D _ rs hn HD.out) (h := ?_); rintro e wn ⟨a4, c4, rfl, od, za⟩; obtain ⟨zf, zg, B⟩ := zM B za
   replace r1 := r1.be za
   clear od; refine ⟨_, rfl, ?_⟩; simp only [zn]; refine j1 underlying35 ?_; refine jL 7 ?_
   refine qm ?hs4_10 ?_
   case hs4_10 => kernel_rfl
   simp only [zn]; refine z7 3 ?_; go_wp2; go_ret; exact ⟨by have hb := HB.out; subst hb; rfl, B⟩
theorem zaa (M : List Int) : ∀ a ∈ (xB M).pts, (-1000000000 ≤ a.x ∧ a.x ≤ 1000000000) ∧ (-1000000000 ≤ a.y ∧ a.y ≤ 1000000000) := fun a ha => by
 obtain ⟨⟨h1, h2⟩, h3, h4⟩ := zgj M a ha
 omega
theorem zc4 (v : Value) (s : jb) (X Y : Int) (w : World) (rs : xh jf v s.pts w) (hn : s.pts.length ≤ 100000) (hX : -1000000 ≤ X ∧ X ≤ 1000000) (hY : -1000000 ≤ Y ∧ Y ≤ 1000000) (hok : ∀ a ∈ s.pts, (-1000000000 ≤ a.x ∧ a.x ≤ 1000000000) ∧ (-1000000000 ≤ a.y ∧ a.y ≤ 1000000000)) : Calls Tryz.prog 39 #[.agg (jg v s), .int .i64 X, .int .i64 Y] w fun e w' => ∃ a n c, e = .returned (.agg (jg (.slice a n c) (shS X Y s))) ∧ xh jf (.slice a n c) (shS X Y s).pts w' ∧ Below w.heap.size w w' :=
 (zbt v s X Y w rs hn hX hY hok).mono fun e w' ⟨v', h1, h2, h3⟩ => by
  obtain ⟨a, c, rfl, _⟩ := h2.len; exact ⟨_, _, _, h1, h2.rs, h3⟩
theorem QG (v0 : Value) (L : List Int) (vL : Value) (M : List Int) (how val x : Int) (w : World) (lm : xN w) (hL : xh inE v0 L w) (hLn : L.length ≤ 17592186044416) (hM : xh inE vL M w) (hMn : M.length ≤ 17592186044416) : Calls Tryz.prog 9 #[v0, .agg #[vL, .int .i64 how, .int .i64 val], .int .i64 x] w fun e w' => e = .returned (.bool true) ∧ Below w.heap.size w w' := by
 have B := Below.refl w.heap.size w
 obtain ⟨aL, cL, rfl, hcL⟩ := hM.len
 have HL := zo hL
 have OF := zo (fun w' (h : Below w.heap.size w w') => zfl _ M how val _ w' (hM.be h) hMn rfl)
 have M1 := zo (fun w' (h : Below w.heap.size w w') => XJ _ M w' (hM.be h) hMn)
 have n1 := zo (WG (Nat.le_trans (zb5 L) (by omega)))
 have tk := zo (zb6 L)
 have SL := zgq M how val
 have SC := zgp M how val
 have TL := wE M
 have TB := JY M
 rw [← TL] at TB
 have TC := zaY M
 have SHB := zo (zaa M)
 obtain ⟨S, hS⟩ : ∃ S, ofS M how val = S := ⟨_, rfl⟩
 obtain ⟨T, hT⟩ : ∃ T, xB M = T := ⟨_, rfl⟩
 rw [hS] at OF SL SC
 rw [hT] at M1 TL TB TC SHB
 clear hS hT hL hM TL
 have SN := zo (show S.pts.length ≤ 17592186044416 by omega)
 have TN := zo (show T.pts.length ≤ 17592186044416 by omega)
 have TN2 := zo (show T.pts.length ≤ 100000 by omega)
 have SC2 := zo SC
 have TC2 := zo TC
 have SL2 := zo SL
 have TB2 := zo TB
 clear SL SC TB TC
 obtain ⟨lb, hlb⟩ : ∃ b, WE S = b := ⟨_, rfl⟩
 have HLB := zo hlb
 clear hlb
 obtain ⟨X, hX, X1, X2⟩ := zhz x
 obtain ⟨Y, hY, Y1, Y2⟩ := zhy x
 go_enter func9, ntmps9
 go_upto_region 0 with fail
 refine wp_region_lit ?_
 try simp only [zR]
 (refine jd (t := 24) B ?_; clear B; intro b_r4 wn zb zd r4 za zf zk B; (try replace lm := lm.be za))
 refine z7 1 ?_
 go_upto_region 1 with fail
 refine wp_region_lit ?_
 try simp only [zR]
 refine qe B (zE func13) (c := zeQ _ lm) ?_
 clear B
 intro wn za zf zg B
 (try replace lm := lm.be za)
 (try replace r4 := r4.be za)
 refine z7 1 ?_
 go_upto_region 2 with fail
 refine wp_region_lit ?_
 try simp only [zR]
 refine jL 1 ?_
 refine xz (zE func29) (c := zdu _ L _ (HL.out.be B) hLn) (h := ?_)
 rintro e wn ⟨a1, c1, rfl, rs1, za⟩
 obtain ⟨zf, zg, B⟩ := zM B za
 (try replace lm := lm.be za)
 (try replace r4 := r4.be za)
 refine ⟨_, rfl, ?_⟩
 simp only [zn]
 obtain ⟨wK, hK⟩ : ∃ z, z = wn := ⟨_, rfl⟩
 subst hK
 have BG := B
 have hwsK := BG.size
 have B := Below.refl wK.heap.size wK
 have H_lm := zo lm
 have H_r4 := zo r4
 have H_rs1 := zo rs1
 try simp only [zR]
 (refine jH (t := 64) (qK _ _ rfl) B ?_; clear B; intro b_r8 wn zb zd r8 za zf zk B)
 (refine qZ r8 B ?_; clear r8 B; intro wn r8 ze zf zg B)
 refine wpList_nil ?_
 clear lm
 clear r4
 clear rs1
 have lm := H_lm.out.be B
 have r4 := H_r4.out.be B
 have rs1 := H_rs1.out.be B
 clear H_lm
 clear H_r4
 clear H_rs1
 have B0 := BG.trans (B.mono hwsK)
 clear B BG hwsK
 have B := B0
 clear B0
 have l8 := r8.lt
 go_upto_region 3 with fail
 refine wp_region_lit ?_
 try simp only [zR]
 refine jL 1 ?_
 refine xz (zE func14) (c := OF.out _ B) (h := ?_)
 rintro e wn ⟨a2, c2, rfl, rs, za⟩
 obtain ⟨zf, zg, B⟩ := zM B za
 (try replace lm := lm.be za)
 (try replace r4 := r4.be za)
 (try replace rs1 := rs1.be za)
 (try replace r8 := r8.be za)
 refine ⟨_, rfl, ?_⟩
 simp only [zn]
 obtain ⟨wK, hK⟩ : ∃ z, z = wn := ⟨_, rfl⟩
 subst hK
 have BG := B
 have hwsK := BG.size
 have B := Below.refl wK.heap.size wK
 have H_lm := zo lm
 have H_r4 := zo r4
 have H_rs1 := zo rs1
 have H_r8 := zo r8
 have H_rs := zo rs
 try simp only [zR]
 (refine jH (t := 30) (qn _ _ rfl) B ?_; clear B; intro b_r9 wn zb zd r9 za zf zk B)
 (refine qZ (hone := (by simp [jg, Value.oneCell'])) r9 B ?_; clear r9 B; intro wn r9 ze zf zg B)
 refine wpList_nil ?_
 clear lm
 clear r4
 clear rs1
 clear r8
 clear rs
 have lm := H_lm.out.be B
 have r4 := H_r4.out.be B
 have rs1 := H_rs1.out.be B
 have r8 := H_r8.out.be B
 have rs := H_rs.out.be B
 clear H_lm
 clear H_r4
 clear H_rs1
 clear H_r8
 clear H_rs
 have B0 := BG.trans (B.mono hwsK)
 clear B BG hwsK
 have B := B0
 clear B0
 clear OF HL hLn
 have l4 := r4.lt
 have h89 : b_r8 < b_r9 := by omega
 have h49 : b_r4 < b_r9 := by omega
 have h0l : w.heap.size ≤ b_r9 := by omega
 have hlm := lm.lt
 go_upto_region 4 with fail
 refine wp_region_lit ?_
 try simp only [zR]
 refine jL 1 ?_
 refine qe B (zE func37) (c := zbi _ S lb _ rs SN.out HLB.out) ?_
 clear B
 intro wn za zf zg B
 (try replace lm := lm.be za)
 (try replace r4 := r4.be za)
 (try replace rs1 := rs1.be za)
 (try replace r8 := r8.be za)
 (try replace rs := rs.be za)
 (try replace r9 := r9.be za)
 refine wpList_nil ?_
 go_upto_if 23 with fail
 go_cut [] from 24 to 26 (fun wr => ∃ (S' : jb) (a' : Option Addr) (c' : Nat), Hid (S'.pts.length ≤ 17592186044416) ∧ Hid S'.col.ok ∧ xh jf (.slice a' S'.pts.length c') S'.pts wr ∧ zw 30 wr b_r9 (jg (.slice a' S'.pts.length c') S') ∧ Below w.heap.size w wr ∧ xN wr ∧ zw 24 wr b_r4 #[.slice aL M.length cL, .int .i64 how, .int .i64 val] ∧ RS (.slice a1 (kw L).length c1) (kw L) wr ∧ zw 64 wr b_r8 #[.slice a1 (kw L).length c1])
 case first =>
  cases lb with
  | true =>
   go_upto_region 5 with fail
   refine wp_region_lit ?_; try simp only [zR]
   refine jL 2 ?_
   refine xz (zE func15) (c := M1.out _ B) (h := ?_); rintro e wn ⟨a3, c3, rfl, od, za⟩; obtain ⟨zf, zg, B⟩ := zM B za
   (try replace lm := lm.be za)
   (try replace r4 := r4.be za)
   (try replace rs1 := rs1.be za)
   (try replace r8 := r8.be za)
   (try replace r9 := r9.be za)
   refine ⟨_, rfl, ?_⟩; simp only [zn]
   (refine qZ (hone := (by simp [jg, Value.oneCell'])) r9 B ?_; have hnB_od := od.neT r9 (by decide); have r9o := r9; clear r9 B; intro wn r9 ze zf zg B; replace rs1 := rs1.chg r9o (by simp [jg, jP]) ze; replace od := od.chgB ze hnB_od; clear hnB_od; (try replace lm := lm.cg ze); (try replace r4 := r4.cg ze); (try replace r8 := r8.cg ze))
   refine wpList_nil ?_; go_wp2_with fail
   go_meet; exact ⟨T, a3, c3, TN, TC2, od.rs, r9, B, lm, r4, rs1, r8⟩
  | false =>
   go_wp2_with fail
   go_meet; exact ⟨S, a2, c2, SN, SC2, rs, r9, B, lm, r4, rs1, r8⟩
 case rest =>
  clear rs r9 B lm r4 rs1 r8; obtain ⟨S', a', c', SN', SC', rs, r9, B, lm, r4, rs1, r8⟩ := hcut; obtain ⟨⟨K1, E1⟩, hK1⟩ : ∃ x, jF S' (kw L) = x := ⟨_, rfl⟩; obtain ⟨⟨K2, E2⟩, hK2⟩ : ∃ x, jF (shS (65536 - X) (-65536 + Y) T) (kw L) = x := ⟨_, rfl⟩; have P1 := J3 SC'.out tk.out hK1; have P2 := J3 (s := shS (65536 - X) (-65536 + Y) T) TC2.out tk.out hK2; have HK1 := zo hK1; have HK2 := zo hK2; have nK1 := zo P1.1; have vK1 := zo P1.2.1; have tK1 := zo P1.2.2; have nK2 := zo P2.1; have vK2 := zo P2.2.1; have tK2 := zo P2.2.2; have EQ1 := zo (K7 (qh K1)); have EQ2 := zo (K7 (qh K2)); have ZN := zo (show (shS (65536 - X) (-65536 + Y) T).pts.length ≤ 17592186044416 from by rw [zhR]; exact TN.out)
  have ZC := zo (show (shS (65536 - X) (-65536 + Y) T).col.ok from TC2.out); have q1 : (E1 == E1) = true := by simp
  have q2 : (E2 == E2) = true := by simp
  clear hK1 hK2 P1 P2; go_upto_region 6 with fail
  refine wp_region_lit ?_; try simp only [zR]
  refine jL 2 ?_
  refine xz (zE func30) (c := Jt _ _ S' (kw L) K1 E1 _ lm rs1 tk.out n1.out rs SN'.out SC'.out HK1.out) (h := ?_); rintro e wn ⟨a5, c5, rfl, rs2, za⟩; obtain ⟨zf, zg, B⟩ := zM B za
  (try replace lm := lm.be za)
  (try replace r4 := r4.be za)
  (try replace rs1 := rs1.be za)
  (try replace r8 := r8.be za)
  (try replace rs := rs.be za)
  (try replace r9 := r9.be za)
  refine ⟨_, rfl, ?_⟩; simp only [zn]; refine jL 3 ?_; obtain ⟨wK, hK⟩ : ∃ z, z = wn := ⟨_, rfl⟩; subst hK; have BG := B; have hwsK := BG.size; have B := Below.refl wK.heap.size wK; have H_lm := zo lm; have H_r4 := zo r4; have H_rs1 := zo rs1; have H_r8 := zo r8; have H_rs := zo rs; have H_r9 := zo r9; have H_rs2 := zo rs2; try simp only [zR]
  (refine jH (t := 64) (qK _ _ rfl) B ?_; clear B; intro b_r10 wn zb zd r10 za zf zk B)
  (refine qZ r10 B ?_; clear r10 B; intro wn r10 ze zf zg B)
  refine z7 1 ?_; clear lm; clear r4; clear rs1; clear r8; clear rs; clear r9; clear rs2; have lm := H_lm.out.be B
  have r4 := H_r4.out.be B
  have rs1 := H_rs1.out.be B
  have r8 := H_r8.out.be B
  have rs := H_rs.out.be B
  have r9 := H_r9.out.be B
  have rs2 := H_rs2.out.be B
  clear H_lm; clear H_r4; clear H_rs1; clear H_r8; clear H_rs; clear H_r9; clear H_rs2; have B0 := BG.trans (B.mono hwsK); clear B BG hwsK; have B := B0; clear B0; go_upto_region 7 with fail
  refine wp_region_lit ?_; try simp only [zR]
  refine jL 2 ?_
  refine xz (zE func38) (c := KT _ _ S' (kw L) K1 E1 _ rs1 tk.out n1.out rs SN'.out SC'.out HK1.out) (h := ?_); rintro e wn ⟨a6, c6, rfl, rs3, za⟩; obtain ⟨zf, zg, B⟩ := zM B za
  (try replace lm := lm.be za)
  (try replace r4 := r4.be za)
  (try replace rs1 := rs1.be za)
  (try replace r8 := r8.be za)
  (try replace rs := rs.be za)
  (try replace r9 := r9.be za)
  (try replace rs2 := rs2.be za)
  (try replace r10 := r10.be za)
  refine ⟨_, rfl, ?_⟩; simp only [zn]; obtain ⟨wK, hK⟩ : ∃ z, z = wn := ⟨_, rfl⟩; subst hK; have BG := B; have hwsK := BG.size; have B := Below.refl wK.heap.size wK; have H_lm := zo lm; have H_r4 := zo r4; have H_rs1 := zo rs1; have H_r8 := zo r8; have H_rs := zo rs; have H_r9 := zo r9; have H_rs2 := zo rs2; have H_r10 := zo r10; have H_rs3 := zo rs3; try simp only [zR]
  (refine jH (t := 82) (qJ _ _ rfl) B ?_; clear B; intro b_r12 wn zb zd r12 za zf zk B)
  (refine qZ r12 B ?_; clear r12 B; intro wn r12 ze zf zg B)
  refine wpList_nil ?_; clear lm; clear r4; clear rs1; clear r8; clear rs; clear r9; clear rs2; clear r10; clear rs3; have lm := H_lm.out.be B
  have r4 := H_r4.out.be B
  have rs1 := H_rs1.out.be B
  have r8 := H_r8.out.be B
  have rs := H_rs.out.be B
  have r9 := H_r9.out.be B
  have rs2 := H_rs2.out.be B
  have r10 := H_r10.out.be B
  have rs3 := H_rs3.out.be B
  clear H_lm; clear H_r4; clear H_rs1; clear H_r8; clear H_rs; clear H_r9; clear H_rs2; clear H_r10; clear H_rs3; have B0 := BG.trans (B.mono hwsK); clear B BG hwsK; have B := B0; clear B0; clear rs r9; go_upto_region 8 with fail
  refine wp_region_lit ?_; try simp only [zR]
  refine jL 2 ?_
  refine xz (zE func15) (c := M1.out _ B) (h := ?_); rintro e wn ⟨a7, c7, rfl, od, za⟩; obtain ⟨zf, zg, B⟩ := zM B za
  (try replace lm := lm.be za)
  (try replace r4 := r4.be za)
  (try replace rs1 := rs1.be za)
  (try replace r8 := r8.be za)
  (try replace rs2 := rs2.be za)
  (try replace r10 := r10.be za)
  (try replace rs3 := rs3.be za)
  (try replace r12 := r12.be za)
  have ts := od.rs; clear od; refine ⟨_, rfl, ?_⟩; simp only [zn]; refine jL 6 ?_; refine xz (zE func39) (c := zc4 _ T (65536 - X) (-65536 + Y) _ ts TN2.out (by omega) (by omega) SHB.out) (h := ?_); rintro e wn ⟨a8, n8, c8, rfl, us, za⟩; obtain ⟨zf, zg, B⟩ := zM B za
  (try replace lm := lm.be za)
  (try replace r4 := r4.be za)
  (try replace rs1 := rs1.be za)
  (try replace r8 := r8.be za)
  (try replace rs2 := rs2.be za)
  (try replace r10 := r10.be za)
  (try replace rs3 := rs3.be za)
  (try replace r12 := r12.be za)
  clear ts; refine ⟨_, rfl, ?_⟩; simp only [zn]; obtain ⟨wK, hK⟩ : ∃ z, z = wn := ⟨_, rfl⟩; subst hK; have BG := B; have hwsK := BG.size; have B := Below.refl wK.heap.size wK; have H_lm := zo lm; have H_r4 := zo r4; have H_rs1 := zo rs1; have H_r8 := zo r8; have H_rs2 := zo rs2; have H_r10 := zo r10; have H_rs3 := zo rs3; have H_r12 := zo r12; have H_us := zo us; try simp only [zR]
  (refine jH (t := 30) (qn _ _ rfl) B ?_; clear B; intro b_r13 wn zb zd r13 za zf zk B)
  (refine qZ (hone := (by simp [jg, Value.oneCell'])) r13 B ?_; clear r13 B; intro wn r13 ze zf zg B)
  refine wpList_nil ?_; clear lm; clear r4; clear rs1; clear r8; clear rs2; clear r10; clear rs3; clear r12; clear us; have lm := H_lm.out.be B
  have r4 := H_r4.out.be B
  have rs1 := H_rs1.out.be B
  have r8 := H_r8.out.be B
  have rs2 := H_rs2.out.be B
  have r10 := H_r10.out.be B
  have rs3 := H_rs3.out.be B
  have r12 := H_r12.out.be B
  have us := H_us.out.be B
  clear H_lm; clear H_r4; clear H_rs1; clear H_r8; clear H_rs2; clear H_r10; clear H_rs3; clear H_r12; clear H_us; have B0 := BG.trans (B.mono hwsK); clear B BG hwsK; have B := B0; clear B0; clear r4 M1 hX hY; go_upto_region 9 with fail
  refine wp_region_lit ?_; try simp only [zR]
  refine jL 2 ?_
  refine xz (zE func30) (c := Jt _ _ (shS (65536 - X) (-65536 + Y) T) (kw L) K2 E2 _ lm rs1 tk.out n1.out us ZN.out ZC.out HK2.out) (h := ?_); rintro e wn ⟨a9, c9, rfl, rs4, za⟩; obtain ⟨zf, zg, B⟩ := zM B za
  (try replace lm := lm.be za)
  (try replace rs1 := rs1.be za)
  (try replace r8 := r8.be za)
  (try replace rs2 := rs2.be za)
  (try replace r10 := r10.be za)
  (try replace rs3 := rs3.be za)
  (try replace r12 := r12.be za)
  (try replace us := us.be za)
  (try replace r13 := r13.be za)
  refine ⟨_, rfl, ?_⟩; simp only [zn]; refine jL 3 ?_; obtain ⟨wK, hK⟩ : ∃ z, z = wn := ⟨_, rfl⟩; subst hK; have BG := B; have hwsK := BG.size; have B := Below.refl wK.heap.size wK; have H_lm := zo lm; have H_rs1 := zo rs1; have H_r8 := zo r8; have H_rs2 := zo rs2; have H_r10 := zo r10; have H_rs3 := zo rs3; have H_r12 := zo r12; have H_us := zo us; have H_r13 := zo r13; have H_rs4 := zo rs4; try simp only [zR]
  (refine jH (t := 64) (qK _ _ rfl) B ?_; clear B; intro b_r14 wn zb zd r14 za zf zk B)
  (refine qZ r14 B ?_; clear r14 B; intro wn r14 ze zf zg B)
  refine z7 1 ?_; clear lm; clear rs1; clear r8; clear rs2; clear r10; clear rs3; clear r12; clear us; clear r13; clear rs4; have lm := H_lm.out.be B
  have rs1 := H_rs1.out.be B
  have r8 := H_r8.out.be B
  have rs2 := H_rs2.out.be B
  have r10 := H_r10.out.be B
  have rs3 := H_rs3.out.be B
  have r12 := H_r12.out.be B
  have us := H_us.out.be B
  have r13 := H_r13.out.be B
  have rs4 := H_rs4.out.be B
  clear H_lm; clear H_rs1; clear H_r8; clear H_rs2; clear H_r10; clear H_rs3; clear H_r12; clear H_us; clear H_r13; clear H_rs4; have B0 := BG.trans (B.mono hwsK); clear B BG hwsK; have B := B0; clear B0; go_upto_region 10 with fail
  refine wp_region_lit ?_; try simp only [zR]
  refine jL 2 ?_
  refine xz (zE func38) (c := KT _ _ (shS (65536 - X) (-65536 + Y) T) (kw L) K2 E2 _ rs1 tk.out n1.out us ZN.out ZC.out HK2.out) (h := ?_); rintro e wn ⟨a10, c10, rfl, rs5, za⟩; obtain ⟨zf, zg, B⟩ := zM B za
  (try replace lm := lm.be za)
  (try replace rs1 := rs1.be za)
  (try replace r8 := r8.be za)
  (try replace rs2 := rs2.be za)
  (try replace r10 := r10.be za)
  (try replace rs3 := rs3.be za)
  (try replace r12 := r12.be za)
  (try replace us := us.be za)
  (try replace r13 := r13.be za)
  (try replace rs4 := rs4.be za)
  (try replace r14 := r14.be za)
  refine ⟨_, rfl, ?_⟩; simp only [zn]; obtain ⟨wK, hK⟩ : ∃ z, z = wn := ⟨_, rfl⟩; subst hK; have BG := B; have hwsK := BG.size; have B := Below.refl wK.heap.size wK; have H_lm := zo lm; have H_rs1 := zo rs1; have H_r8 := zo r8; have H_rs2 := zo rs2; have H_r10 := zo r10; have H_rs3 := zo rs3; have H_r12 := zo r12; have H_us := zo us; have H_r13 := zo r13; have H_rs4 := zo rs4; have H_r14 := zo r14; have H_rs5 := zo rs5; try simp only [zR]
  (refine jH (t := 82) (qJ _ _ rfl) B ?_; clear B; intro b_r16 wn zb zd r16 za zf zk B)
  (refine qZ r16 B ?_; clear r16 B; intro wn r16 ze zf zg B)
  refine wpList_nil ?_; clear lm; clear rs1; clear r8; clear rs2; clear r10; clear rs3; clear r12; clear us; clear r13; clear rs4; clear r14; clear rs5; have lm := H_lm.out.be B
  have rs1 := H_rs1.out.be B
  have r8 := H_r8.out.be B
  have rs2 := H_rs2.out.be B
  have r10 := H_r10.out.be B
  have rs3 := H_rs3.out.be B
  have r12 := H_r12.out.be B
  have us := H_us.out.be B
  have r13 := H_r13.out.be B
  have rs4 := H_rs4.out.be B
  have r14 := H_r14.out.be B
  have rs5 := H_rs5.out.be B
  clear H_lm; clear H_rs1; clear H_r8; clear H_rs2; clear H_r10; clear H_rs3; clear H_r12; clear H_us; clear H_r13; clear H_rs4; clear H_r14; clear H_rs5; have B0 := BG.trans (B.mono hwsK); clear B BG hwsK; have B := B0; clear B0; clear us r13 rs1 r8 lm; go_upto_region 11 with fail
  refine wp_region_lit ?_; try simp only [zR]
  refine jD 11 ?_
  repeat (first | go_big_quiet_skip | (go_big_quiet_want; first | ((first | refine zq (fun w hw => jQ ((zY r12 w hw).cell 0 rfl)) ?_ | refine zq (fun w hw => jQ ((zY r16 w hw).cell 0 rfl)) ?_ | refine qB ?_ | refine qC ?_); simp only [zn]; go_big_quiet_on) | (go_big_quiet_op; go_big_quiet_on)))
  refine wpQuiet_nil ?_; refine qe B (zE func40) (c := KP _ _ K1 K1 true _ rs2 rs3 tK1.out tK1.out nK1.out nK1.out EQ1.out) ?_; clear B; intro wn za zf zg B
  (try replace rs2 := rs2.be za)
  (try replace r10 := r10.be za)
  (try replace r12 := r12.be za)
  (try replace rs4 := rs4.be za)
  (try replace r14 := r14.be za)
  (try replace rs5 := rs5.be za)
  (try replace r16 := r16.be za); refine jD 11 ?_
  repeat (first | go_big_quiet_skip | (go_big_quiet_want; first | ((first | refine zq (fun w hw => jQ ((zY r12 w hw).cell 0 rfl)) ?_ | refine zq (fun w hw => jQ ((zY r16 w hw).cell 0 rfl)) ?_ | refine qB ?_ | refine qC ?_); simp only [zn]; go_big_quiet_on) | (go_big_quiet_op; go_big_quiet_on)))
  refine wpQuiet_nil ?_; refine qe B (zE func40) (c := KP _ _ K2 K2 true _ rs4 rs5 tK2.out tK2.out nK2.out nK2.out EQ2.out) ?_; clear B; intro wn za zf zg B
  (try replace rs2 := rs2.be za)
  (try replace r10 := r10.be za)
  (try replace r12 := r12.be za)
  (try replace rs4 := rs4.be za)
  (try replace r14 := r14.be za)
  (try replace r16 := r16.be za); refine jD 3 ?_
  repeat (first | go_big_quiet_skip | (go_big_quiet_want; first | ((first | refine zq (fun w hw => jQ ((zY r12 w hw).cell 0 rfl)) ?_ | refine zq (fun w hw => jQ ((zY r16 w hw).cell 0 rfl)) ?_ | refine qB ?_ | refine qC ?_); simp only [zn]; go_big_quiet_on) | (go_big_quiet_op; go_big_quiet_on)))
  refine wpQuiet_nil ?_; refine qe B (zE func41) (c := Ju _ K1 true _ rs2 tK1.out nK1.out vK1.out) ?_; clear B; intro wn za zf zg B
  (try replace r10 := r10.be za)
  (try replace r12 := r12.be za)
  (try replace rs4 := rs4.be za)
  (try replace r14 := r14.be za)
  (try replace r16 := r16.be za); refine jD 3 ?_
  repeat (first | go_big_quiet_skip | (go_big_quiet_want; first | ((first | refine zq (fun w hw => jQ ((zY r12 w hw).cell 0 rfl)) ?_ | refine zq (fun w hw => jQ ((zY r16 w hw).cell 0 rfl)) ?_ | refine qB ?_ | refine qC ?_); simp only [zn]; go_big_quiet_on) | (go_big_quiet_op; go_big_quiet_on)))
  refine wpQuiet_nil ?_; refine qe B (zE func41) (c := Ju _ K2 true _ rs4 tK2.out nK2.out vK2.out) ?_; clear B; intro wn za zf zg B; refine z7 2 ?_; go_wp2; go_ret; exact ⟨rfl, B⟩
namespace strokePaint
open Go.ChangeShapes Go.WideShapes Go.ChangeAt Go.RowKit
open Go.ChangeMaps (open_string shut_string)
set_option maxRecDepth 100000 in
theorem lifted (os : Os) (started : os.Started) (H : Type) (enc : TypeId × Value → H) :
  ReturnsInHanded {} Tryz.checked os 9 .any (fun w args => (Rows.strokePaintSpec.pre enc Tryz.prog f9 [] false w args ∧ laidMetH Tryz.prog Vj w) ∧ sizedMet enc Tryz.prog f9 (OpenSpec.ofChange Rows.strokePaintSpec) false w args) (Rows.strokePaintSpec.post enc Tryz.prog f9 false true false false) := by
 refine returnsInHanded_of_change_and (C := Tryz.checked) (X := fun w _ => laidMetH Tryz.prog Vj w) (fun _ _ _ hh h => h.of_heap hh) own started (by kernel_rfl) func9
  (ChangeSpec.witness_shaped (enc := enc) (C := Tryz.checked) (os := os) (X := fun w _ => laidMetH Tryz.prog Vj w) false (World.doorLaid Tryz.prog 400 os) #[.slice none 0 0, .agg #[.slice none 0 0, .int .i64 0, .int .i64 0], .int .i64 0] 8 rfl (World.shaped_of_RefB (by kernel_rfl) (by kernel_rfl)) (by kernel_rfl) (by kernel_rfl) (by kernel_rfl) (zdO os _)) ?_
 intro W base args ds gs before hval0 hW _ hsz0 hL _
 have hlm := Vl hL
 have hval : ∀ (j : Nat) t v, Tryz.f9.params[j]? = some t → args[j]? = some v → Value.okWide Tryz.prog W .any base t v := hval0
 have hW' := hW
 obtain ⟨p, q, hA0, hV, rfl, hfz, hnd⟩ := hW
 have hA : DataW.TrodAll enc Tryz.prog W 0 (fun _ => true) true Tryz.f9.params.toList args.toList ds p := hA0
 rw [Tryz.params9] at hA hval hsz0
 obtain ⟨v0, vs0, d0, ds0, p0, q0, hargs, rfl, rfl, h0, r0⟩ := trodAll_cons hA
 obtain ⟨v1, vs1, d1, ds1, p1, q1, rfl, rfl, rfl, h1, r1⟩ := trodAll_cons r0
 obtain ⟨v2, vs2, d2, ds2, p2, q2, rfl, rfl, rfl, h2, r2⟩ := trodAll_cons r1
 obtain ⟨rfl, rfl, rfl⟩ := trodAll_nil r2
 obtain rfl : args = #[v0, v1, v2] := by cases args; simp_all
 obtain ⟨rfl, rfl⟩ := trodVars_none hV
 have hwt0 : ∀ n ∈ DataW.weights Tryz.prog 22 d0, n ≤ reachBytes := fun n hn => by simpa using List.all_eq_true.1 hsz0 n (DataW.weights_mem_each (j := 0) rfl rfl n hn)
 have hwt1 : ∀ n ∈ DataW.weights Tryz.prog 24 d1, n ≤ reachBytes := fun n hn => by simpa using List.all_eq_true.1 hsz0 n (DataW.weights_mem_each (j := 1) rfl rfl n hn)
 have k0 := h0
 have lt0 : ∀ x ∈ p0, x.block < W.heap.size := by obtain ⟨m, hm⟩ := k0; exact DataW.trod_lt m _ _ _ hm
 have k1 := h1
 have lt1 : ∀ x ∈ p1, x.block < W.heap.size := by obtain ⟨m, hm⟩ := k1; exact DataW.trod_lt m _ _ _ hm
 have k2 := h2
 have lt2 : ∀ x ∈ p2, x.block < W.heap.size := by obtain ⟨m, hm⟩ := k2; exact DataW.trod_lt m _ _ _ hm
 obtain ⟨L0, hL0, hLn0⟩ := WK (hval 0 22 v0 rfl rfl) h0 hwt0
 obtain ⟨vL1, L1, how1, val1, rfl, hL1, hLn1, hhw1, hvl1⟩ := WL (hval 1 24 v1 rfl rfl) h1 hwt1
 obtain ⟨a2, rfl, rfl, rfl, w2⟩ := open_int underlying3 (hval 2 3 v2 rfl rfl) h2
 clear hA0 hval0
 refine (QG v0 L0 vL1 L1 how1 val1 a2   W hlm hL0 hLn0 hL1 hLn1).mono fun e W' ⟨he, bel⟩ => ?_
 subst he
 exact ⟨_, rfl, _, _, _, [], _, [], hW', trodAll_mk1 (shut_bool underlying4 _), (trodAll_cons_mk (Below.trod YQ (by kernel_rfl) (of_decide_eq_true (by kernel_rfl)) k0 bel lt0) (trodAll_cons_mk (Below.trod YQ (by kernel_rfl) (of_decide_eq_true (by kernel_rfl)) k1 bel lt1) (trodAll_cons_mk (Below.trod YQ (by kernel_rfl) (of_decide_eq_true (by kernel_rfl)) k2 bel lt2) trodAll_mk0))), rfl, bel.frame _, fun h => by cases h⟩
theorem over : Rows.strokePaintRow.holds Tryz.pinned (OpenSpec.ofChange Rows.strokePaintSpec) :=
 OpenClaim.holds_of_wide 9 f9 rfl rfl rfl rfl rfl rfl rfl ⟨rfl, rfl, rfl, rfl, rfl⟩ rfl rfl rfl rfl rfl (by kernel_rfl) func9 (by kernel_rfl)
  (of_decide_eq_true (by kernel_rfl)) (by unfold Func.isWrapper; first | (rw [if_pos (by decide +kernel)]; kernel_rfl) | (rw [if_neg (by decide +kernel)]; exact ⟨rfl, rfl⟩))
  (fun os started H enc _ => lifted os started H enc)
theorem proved : Rows.StrokePaintCardSaid := by
 unfold Rows.StrokePaintCardSaid Rows.strokePaintCard
 exact Claim7.holds_tied_plain_at .later [] [.data] true _ false over (fun _ h => by cases h) (by kernel_rfl) (fun _ h => by cases h) strokePaint_row_tie rfl ⟨rfl, rfl⟩ (by kernel_rfl) rfl
  (fun f fn hf hfn => by
   obtain rfl : f = 9 := Option.some.inj ((show Tryz.prog.funcNamed "gouache/gouachelaw14.StrokePaint" = some 9 by kernel_rfl).symm.trans hf) |>.symm
   obtain rfl : fn = f9 := (Option.some.inj (Tryz.func9.symm.trans hfn)).symm; exact ⟨by kernel_rfl, fun j t ht => by
    rw [Tryz.params9] at ht; have hm : t ∈ [22, 24, 3] := by simpa using Array.mem_of_getElem? ht
    have hall : ([22, 24, 3].all fun u => !Tryz.prog.wantsStandIn u) = true := by kernel_rfl
    exact (show Tryz.prog.wantsStandIn t = false by simpa using List.all_eq_true.1 hall t hm)⟩)
  (by kernel_rfl)
end strokePaint
end Go.Proofs.YtepelndbbhdofaaGreatDoor
