/- StrokeArea: for every generated raster and stroke, painting turns no pixel outside of Area, and the changed tiles meet it: the law returns true for every input, and its arguments read as they did; what the listed variable holds is tied to the program's text. No other condition. -/
import Derived.Test.YtepelndbbhdofaaGreatDoorKa5
import Derived.SizedLaws
import Derived.ChangeSlices
import Derived.Test.YtepelndbbhdofaaGreatDoorTie
import Derived.Test.YtepelndbbhdofaaGreatDoorCards
import Derived.LaidMore
import Derived.Stop.Joined
import Derived.Stop.LaidErr
import Derived.Lib.LaidTab
import Derived.SevenTiedAt

/- Contract of Paint of package stroke. -/
namespace Go.Proofs.YtepelndbbhdofaaGreatDoor
open Go.RowKit Go.Shelf Pl
attribute [local go_sem] Oper.semAt_some
set_option linter.unusedVariables false
set_option linter.unusedSimpArgs false
set_option maxRecDepth 20000
section
variable {F : Fence} {n : Nat} {P : Program}
/-- As rangeFunc_O, where the body may return. -/
theorem X3 {α : Type} {g : Operand} {ps : Array Tmp} {assign body : Code} {Q : Exit → Act → World → Prop} {a : Act} {w : World}
  (hro : F.round = none) (h1 : 1 ≤ n) {gf : Nat} {lb : Array Value} (hg : a.eval g = .func (.func gf) #[] lb) (hFg : F.fn gf) (eg : ∀ args w, (callFunc gf args).run P w = .ok (.enter gf args) w)
  {encs : α → Array Value} {Kp : World → World → Prop} {S Sp : List α → Prop} {N : Nat} {w0 : World} (hseq : Zq F (n - 1) P gf lb encs Kp S Sp N w0)
  (hKt : ∀ {A B C : World}, Kp A B → Kp B C → Kp A C) (hKb : ∀ (W : World) (l : Nat) (o o' : Obj), w.heap.size ≤ l → W.heap[l]? = some o → o.isCells = false → o.isWalk = false → Kp W (W.putObj l o'))
  (hKg : ∀ (A B : World), Below A.heap.size A B → Kp A B) (hb0 : Below w0.heap.size w0 w) (hps : ∀ x, (encs x).size = ps.size)
  (I Ix : List α → World → Prop) (hI0 : zbt w.heap.size I) (hX0 : zbt w.heap.size Ix) (h0 : I [] w) (As : α → Act → World → Prop) (hAs : ∀ x, OwnFrom w.heap.size (As x))
  (hassign : ∀ (l : Nat) (pre : List α) (x : α) (W : World) (K : Act → World → Prop), I pre W → w.heap.size + 2 < W.heap.size → (∀ a' W', Below W.heap.size W W' → As x a' W' → K a' W') →
   assign.wpIn (F.inRound l) (n - 1 - 1) P (Exit.then K (fun _ _ _ => False)) { tmps := (ps.zip (encs x)).foldl (fun t (p, v) => t.setIfInBounds p v) a.tmps, defers := [] } W)
  (hbody : ∀ (l : Nat) (pre : List α) (x : α) (W : World) (a' : Act), I pre W → As x a' W → pre.length < N → body.wpIn (F.inRound l) (n - 1 - 1) P (ownPostK Kp I (fun c xs W => c = .ret ∧ Ix xs W) (pre ++ [x]) W) a' W)
  (hdone : ∀ (D : Nat) (xs : List α) (W : World), w.heap.size ≤ D → S xs → I xs W → W.heap[D]? = some (.deferred (some [])) → Q .normal { a with defers := { target := .collected D, args := #[] } :: a.defers } W)
  (hstop : ∀ (D : Nat) (pre : List α) (W : World), w.heap.size ≤ D → Sp pre → Ix pre W → W.heap[D]? = some (.deferred (some [])) → Q .ret { a with defers := { target := .collected D, args := #[] } :: a.defers } W) :
  (Code.rangeFunc g ps assign body).wpIn F n P Q a w := by
 have hI : OwnFrom w.heap.size I := hI0.from
 have hX : OwnFrom w.heap.size Ix := hX0.from
 refine wpIn_rangeFunc fun fn hfn => ?_
 rw [hro]
 obtain ⟨rc, hrc⟩ : ∃ rc : LoopState → Option Code → Loop, rc = fun st pe => { state := st, pending := pe, fn, tmps := a.tmps, params := ps, assign, body, defers := w.heap.size } := ⟨_, rfl⟩
 obtain ⟨W1, hW1⟩ : ∃ W1, (w.alloc (.deferred (some []))).alloc (.loop (rc .ready none)) = W1 := ⟨_, rfl⟩
 have blkL : W1.heap[w.heap.size + 1]? = some (.loop (rc .ready none)) := by
  have := World.alloc_heap_new (w.alloc (.deferred (some []))) (.loop (rc .ready none)); rw [← hW1]
  rwa [World.size_alloc] at this
 have blkD : W1.heap[w.heap.size]? = some (.deferred (some [])) := by
  rw [← hW1]; exact (Below.heap_alloc _ _ _ (by simp)).trans (World.alloc_heap_new w _)
 have grown : Below w0.heap.size w0 W1 := by
  rw [← hW1]; exact hb0.trans ((((Below.refl _ w).alloc (Nat.le_refl _) _).alloc (by simp) _).mono hb0.size)
 have Jr : I [] W1 := by rw [← hW1]; exact hI.alloc _ (hI.alloc _ h0)
 refine ⟨w.heap.size + 1, [{ target := .collected w.heap.size, args := #[] }], W1, { target := .fn (.func gf) lb, args := #[.func (.yield (w.heap.size + 1)) #[] #[]] }, W1, gf,
  #[.func (.yield (w.heap.size + 1)) #[] #[]] ++ lb, W1, ?_, ?_, ?_, ?_, fun _ => h1, ?_⟩
 ·rw [← hW1, hrc]; exact run_enterLoop_outer _ _ _ _ _
 ·simp only [resolve, hg]
  simp [go_sem]
 ·intro f' hf'
  simp [Target.leads] at hf'
  subst hf'; exact hFg
 ·simp [invoke, go_sem, eg]
 have hszW1 : W1.heap.size = w.heap.size + 2 := by rw [← hW1]; simp
 have book : ∀ (A B : World) (row : Option Nat) (c : Loop), A.grownBy B row → (∀ r, row = some r → YP W1.heap.size A r) → A.heap[w.heap.size + 1]? = some (.loop c) → A.heap[w.heap.size]? = some (.deferred (some [])) → B.heap[w.heap.size + 1]? = some (.loop c) ∧ B.heap[w.heap.size]? = some (.deferred (some [])) := fun A B row c hg' hr h1 h2 =>
  ⟨(hg'.block _ (Array.getElem?_eq_some_iff.1 h1).1 (fun e => by have := (hr _ e.symm).1; omega)).trans h1, (hg'.block _ (Array.getElem?_eq_some_iff.1 h2).1 (fun e => by have := (hr _ e.symm).1; omega)).trans h2⟩
 have turn : ∀ (A : World) (row : Option Nat), (∀ r, row = some r → YP W1.heap.size A r) → ∀ r, row = some r → w.heap.size ≤ r ∧ ((∃ o : Obj, A.heap[r]? = some o ∧ o.isCells = false) ∨ YP (w.heap.size + 2) A r) := fun A row hr r e => ⟨by have := (hr r e).1; omega, .inr (by have := hr r e; rwa [hszW1] at this)⟩
 refine (hseq (w.heap.size + 1)
  (fun pre W => I pre W ∧ W.heap[w.heap.size + 1]? = some (.loop (rc .ready none)) ∧ W.heap[w.heap.size]? = some (.deferred (some [])))
  (fun pre W => Ix pre W ∧ W.heap[w.heap.size + 1]? = some (.loop (rc .done (some .ret))) ∧ W.heap[w.heap.size]? = some (.deferred (some []))) W1 grown
  (fun s A B row hs hg' hr => ⟨hI0 s A B row hs.1 hg' (turn A row hr), book A B row _ hg' hr hs.2.1 hs.2.2⟩)
  (fun s A B row hs hg' hr => ⟨hX0 s A B row hs.1 hg' (turn A row hr), book A B row _ hg' hr hs.2.1 hs.2.2⟩) ?_ ⟨Jr, blkL, blkD⟩).mono ?_
 ·rintro pre x W ⟨hi, hl, hk⟩ hlen hbig
  have hy := run_yield (P := P) (args := encs x) hl (by rw [hrc]; exact hps x)
  rw [hrc] at hy; refine ⟨fn, _, assign, body, hy, roundIn_of_wpIn hfn (hassign _ pre x W _ hi (by rw [hszW1] at hbig; exact hbig) fun a' V hb ha => ?_)⟩
  have hlV : V.heap[w.heap.size + 1]? = some (.loop (rc .ready none)) := (hb.block _ (Array.getElem?_eq_some_iff.1 hl).1).trans hl; have hkV : V.heap[w.heap.size]? = some (.deferred (some [])) := (hb.block _ (Array.getElem?_eq_some_iff.1 hk).1).trans hk; have hiV : I pre V := hI pre W V none hi (xz hb) (fun r e => by cases e); refine ⟨_, run_beginRound hlV (by rw [hrc]), ?_⟩; obtain ⟨V1, hV1⟩ : ∃ V1, V.putObj (w.heap.size + 1) (.loop { rc .ready none with state := .busy }) = V1 := ⟨_, rfl⟩; have hl1 : V1.heap[w.heap.size + 1]? = some (.loop { rc .ready none with state := .busy }) := by rw [← hV1]; exact World.putObj_heap_same (Array.getElem?_eq_some_iff.1 hlV).1
  have hk1 : V1.heap[w.heap.size]? = some (.deferred (some [])) := by rw [← hV1]; exact (World.putObj_heap_other (by omega)).trans hkV
  have hKp1 : Kp W V1 := hKt (hKg _ _ hb) (by rw [← hV1]; exact hKb _ _ _ _ (by omega) hlV rfl rfl)
  have hi1 : I pre V1 := by rw [← hV1]; exact hI.putObj _ hiV (by omega) hlV rfl
  have ha1 : As x a' V1 := by rw [← hV1]; exact (hAs x).putObj _ ha (by omega) hlV rfl
  rw [hV1]; refine wpIn_mono (hbody _ pre x V1 a' hi1 ha1 hlen) ?_; rintro e a3 W3 hp; cases e with
  | normal =>
   obtain ⟨ko, kp, hi3⟩ := hp; have hl3 := ko.same _ _ hl1 rfl; have hk3 := ko.same _ _ hk1 rfl; have he := run_endRound (P := P) none hl3; rw [hrc] at he; refine ⟨_, _, he, .inl ⟨rfl, ⟨hI.putObj _ hi3 (by omega) hl3 rfl, ?_, (World.putObj_heap_other (by omega)).trans hk3⟩, hKt (hKt hKp1 kp) (hKb _ _ _ _ (by omega) hl3 rfl rfl)⟩⟩; rw [World.putObj_heap_same (Array.getElem?_eq_some_iff.1 hl3).1, hrc]
   rfl
  | ret =>
   obtain ⟨ko, _, hi3⟩ := hp; have hl3 := ko.same _ _ hl1 rfl; have hk3 := ko.same _ _ hk1 rfl; have he := run_endRound (P := P) (some .ret) hl3; rw [hrc] at he; refine ⟨_, _, he, .inr ⟨rfl, hX.putObj _ hi3 (by omega) hl3 rfl, ?_, (World.putObj_heap_other (by omega)).trans hk3⟩⟩; rw [World.putObj_heap_same (Array.getElem?_eq_some_iff.1 hl3).1, hrc]
   rfl
  | exit id => cases hp.2.1
  | goto t => cases hp.2.1
  | panic ch => exact hp.elim
  | outgrown => exact hp.elim
 ·rintro e W2 ⟨⟨v, rfl⟩, ⟨xs, hS, hi, hl, hk⟩ | ⟨pre, hSp, hi, hl, hk⟩⟩
  ·have he := run_endLoop (P := P) hl (by rw [hrc]; simp)
   rw [hrc] at he; exact ⟨none, _, he, hdone _ xs _ (Nat.le_refl _) hS (hI.putObj _ hi (by omega) hl rfl) ((World.putObj_heap_other (by omega)).trans hk)⟩
  ·have he := run_endLoop (P := P) hl (by rw [hrc]; simp)
   rw [hrc] at he; exact ⟨some .ret, _, he, wpIn_ret (hstop _ pre _ (Nat.le_refl _) hSp (hX.putObj _ hi (by omega) hl rfl) ((World.putObj_heap_other (by omega)).trans hk))⟩
end
/-! ### Blocks of an error, of a function -/
theorem Ze (w : World) (o : Oper) (ho : o.op = .alloc 53) (ev : Operand → Value) : (execOp ev o).run Tryz.prog w = .ok (.value (.pointer (some ⟨w.heap.size, 0, none⟩))) (w.alloc (.cells #[.int .i64 0] 53)) := by
 obtain ⟨d, p, t, ps, af, gd⟩ := o
 simp only at ho
 subst ho
 kernel_rfl
theorem Ya (w : World) (o : Oper) (ho : o.op = .alloc 114) (ev : Operand → Value) : (execOp ev o).run Tryz.prog w = .ok (.value (.pointer (some ⟨w.heap.size, 0, none⟩))) (w.alloc (.cells #[.nilFunc] 114)) := by
 obtain ⟨d, p, t, ps, af, gd⟩ := o
 simp only at ho
 subst ho
 kernel_rfl
theorem xf {w : World} {b : Nat} {z : Int} (h : zK 53 w b #[.int .i64 z]) : (Instr.loadAt 53 (.pointer (some ⟨b, 0, none⟩))).run Tryz.prog w = .ok (.int .i64 z) w := by
 have c0 := h.cell 0 rfl
 simp [go_sem, c0]
theorem KR {w : World} {b : Nat} {f : Fn} {x y : Array Value} (h : zK 114 w b #[.func f x y]) : (Instr.loadAt 114 (.pointer (some ⟨b, 0, none⟩))).run Tryz.prog w = .ok (.func f x y) w := by
 have c0 := h.cell 0 rfl
 simp [go_sem, c0]
theorem wF {ops : Array Oper} {rest : List Oper} {o : Oper} {a : Act} {w : World} {Q : Exit → Act → World → Prop} (hg : o.guard = none) (x y : Operand) (ho : o.op = .store 53 x y) (b : Nat) (hx : a.eval x = .pointer (some ⟨b, 0, none⟩)) (z : Int) (hy : a.eval y = .int .i64 z) {v : Value} (ht : zK 53 w b #[v])
  (h : ∀ w', zK 53 w' b #[.int .i64 z] → qV b w w' → w'.heap.size = w.heap.size → wpList Tryz.prog ops Q rest (a.put o.dst undef) w') : wpList Tryz.prog ops Q (o :: rest) a w := by
 have c0 := ht.cell 0 rfl
 have f0 := ht.frozen 0
 refine qk hg x y ho (w.setCell ⟨b, 0, none⟩ (.int .i64 z)) ?_ (h _ ?_ ((qV.refl b w).setCell _) (by simp only [World.size_setCell]))
 ·rw [hx, hy]
  simp [go_sem, c0, f0]
 ·exact heap_setCell_same w b 0 #[v] _ _ ht
theorem Z7 {ops : Array Oper} {rest : List Oper} {o : Oper} {a : Act} {w : World} {Q : Exit → Act → World → Prop} (hg : o.guard = none) (x y : Operand) (ho : o.op = .store 114 x y) (b : Nat) (hx : a.eval x = .pointer (some ⟨b, 0, none⟩)) (f : Fn) (p q : Array Value) (hy : a.eval y = .func f p q) {v : Value} (ht : zK 114 w b #[v])
  (h : ∀ w', zK 114 w' b #[.func f p q] → qV b w w' → w'.heap.size = w.heap.size → wpList Tryz.prog ops Q rest (a.put o.dst undef) w') : wpList Tryz.prog ops Q (o :: rest) a w := by
 have c0 := ht.cell 0 rfl
 have f0 := ht.frozen 0
 refine qk hg x y ho (w.setCell ⟨b, 0, none⟩ (.func f p q)) ?_ (h _ ?_ ((qV.refl b w).setCell _) (by simp only [World.size_setCell]))
 ·rw [hx, hy]
  simp [go_sem, c0, f0]
 ·exact heap_setCell_same w b 0 #[v] _ _ ht
/-- An error stays. -/
theorem zaJ (s : jd) (k : Nat) (ls : List TA) {E : Int} (h : (yk s ((kw (xl s) k).map fun i => xg s i.val) ls).2 = E) (hE : E ≠ 0) : yk s (jR s) ls = ([], E) := by
 have e1 : jR s = ((kw (xl s) k).map fun i => xg s i.val) ++ ((List.finRange (xl s)).drop k).map fun i => xg s i.val := by
  rw [← QS, ← List.map_append]; unfold kw; rw [List.take_append_drop]
 have e2 : yk s (jR s) ls = yk s ((kw (xl s) k).map fun i => xg s i.val) ls := by
  rw [e1]; unfold yk at *; rw [List.foldl_append]; exact XP s _ (by rw [h]; exact hE)
 rw [e2]
 exact Prod.ext (zaH s _ ls (by rw [h]; exact hE)) h
set_option maxHeartbeats 16000000 in
theorem Vn (v vs : Value) (s : jd) (ls : List TA) (w : World) (lm : xU w) (h : RS v ls w) (tk : qN ls) (hn : ls.length ≤ maxLen) (rs : xp j3 vs s.pts w) (hv : j2 s = true) (hcol : s.col.ok) : Calls Tryz.prog 30 #[.agg #[v], .agg (jE vs s)] w fun e w' => ∃ a cp, e = .returned (.tuple #[.agg #[.slice a (jk s ls).1.length cp], .int .i64 (jk s ls).2]) ∧ RS (.slice a (jk s ls).1.length cp) (jk s ls).1 w' ∧ Below w.heap.size w w' := by
 have B := Below.refl w.heap.size w
 have HV0 := Lib.hid hv
 have HVS := Lib.hid ((xk s).1 hv)
 have HCOL := Lib.hid hcol
 have HFIN := Lib.hid (show jk s ls = yk s (jR s) (qc ls) from if_pos hv)
 have hl1 := HVS.out.l1
 have hl2 := HVS.out.l2
 obtain ⟨ad, cd, rfl, hcd⟩ := rs.len
 obtain ⟨g, o, rfl, pc⟩ := rs.at (by omega)
 obtain ⟨a, c, rfl, hc⟩ := h.len
 have TK := Lib.hid tk
 have rs1 := h
 have hg0 := pc.lt
 have hlm0 := lm.lt
 clear hv hcol h tk
 refine (callsIn_wide (n := 3)).1 ?_
 refine callsIn_of_wp_marks Tryz.func30 rfl trivial ?_ rfl
 simp only [Tryz.ntmps30, List.size_toArray, List.length_cons, List.length_nil, Nat.reduceAdd, Nat.reduceSub, Array.replicate_succ, Array.replicate_zero, List.push_toArray, List.append_toArray, List.nil_append, List.cons_append]
 refine wpIn_wide.2 ?_
 go_upto_region 0 with fail
 refine wp_region_lit ?_
 (refine zt (t := 64) rfl _ rfl _ rfl (zY B ?_); clear B; intro b_r2 wn zb zd r2 za zf zk B; (try have zh := lm.lt); (try replace lm := lm.below (za.mono zb)); (try have zh := rs1.lt); (try replace rs1 := rs1.below (za.mono zb)); (try have zh := pc.lt); (try replace pc := pc.below (za.mono zb)); (try have zh := rs.lt); (try replace rs := rs.below (za.mono zb)); simp only [zo])
 (refine zt (t := 30) rfl _ rfl _ rfl (zY B ?_); clear B; intro b_r3 wn zb zd r3 za zf zk B; (try have zh := r2.lt); (try replace r2 := r2.below (za.mono zb)); (try have zh := lm.lt); (try replace lm := lm.below (za.mono zb)); (try have zh := rs1.lt); (try replace rs1 := rs1.below (za.mono zb)); (try have zh := pc.lt); (try replace pc := pc.below (za.mono zb)); (try have zh := rs.lt); (try replace rs := rs.below (za.mono zb)); simp only [zo])
 (refine zr (t := 64) rfl _ (qA _ _ rfl) (zY B ?_); clear B; intro b_r4 wn zb zd r4 za zf zk B; (try have zh := r2.lt); (try replace r2 := r2.below (za.mono zb)); (try have zh := r3.lt); (try replace r3 := r3.below (za.mono zb)); (try have zh := lm.lt); (try replace lm := lm.below (za.mono zb)); (try have zh := rs1.lt); (try replace rs1 := rs1.below (za.mono zb)); (try have zh := pc.lt); (try replace pc := pc.below (za.mono zb)); (try have zh := rs.lt); (try replace rs := rs.below (za.mono zb)); simp only [zo])
 (refine zr (t := 53) rfl _ (Ze _ _ rfl) (zY B ?_); clear B; intro b_e5 wn zb zd e5 za zf zk B; (try have zh := r2.lt); (try replace r2 := r2.below (za.mono zb)); (try have zh := r3.lt); (try replace r3 := r3.below (za.mono zb)); (try have zh := r4.lt); (try replace r4 := r4.below (za.mono zb)); (try have zh := lm.lt); (try replace lm := lm.below (za.mono zb)); (try have zh := rs1.lt); (try replace rs1 := rs1.below (za.mono zb)); (try have zh := pc.lt); (try replace pc := pc.below (za.mono zb)); (try have zh := rs.lt); (try replace rs := rs.below (za.mono zb)); simp only [zo])
 refine wpList_nil ?_
 have k2 : w.heap.size ≤ b_r2 := by omega
 have k3 : b_r2 < b_r3 := by have := r2.lt; omega
 have k4 : b_r3 < b_r4 := by have := r3.lt; omega
 have k5 : b_r4 < b_e5 := by have := r4.lt; omega
 go_upto_region 1 with fail
 refine wp_region_lit ?_
 refine zy 1 ?_
 refine je (enters_of Tryz.func16 (by kernel_rfl) rfl) (c := xM _ s true _ rs (by omega) HV0.out) (h := ?_)
 rintro e wn ⟨rfl, za⟩
 have zf := B.size
 have zg := za.size
 replace B := B.trans (za.mono B.size)
 (try replace r2 := r2.below za)
 (try replace r3 := r3.below za)
 (try replace r4 := r4.below za)
 (try replace e5 := e5.below za)
 (try replace lm := lm.below za)
 (try replace rs1 := rs1.below za)
 (try replace pc := pc.below za)
 (try replace rs := rs.below za)
 refine ⟨_, rfl, ?_⟩
 simp only [zo]
 refine zy 1 ?_
 refine wpList_nil ?_
 clear rs
 go_upto_region 3 with fail
 refine wp_region_lit ?_
 (refine qv rfl (.func (.func 72) #[] #[.pointer (some ⟨b_r3, 0, none⟩)]) (by first | rfl | simp [go_sem, Act.eval]) ?_; simp only [zo])
 (refine zr (t := 114) rfl _ (Ya _ _ rfl) (zY B ?_); clear B; intro b_f6 wn zb zd f6 za zf zk B; (try have zh := r2.lt); (try replace r2 := r2.below (za.mono zb)); (try have zh := r3.lt); (try replace r3 := r3.below (za.mono zb)); (try have zh := r4.lt); (try replace r4 := r4.below (za.mono zb)); (try have zh := e5.lt); (try replace e5 := e5.below (za.mono zb)); (try have zh := lm.lt); (try replace lm := lm.below (za.mono zb)); (try have zh := rs1.lt); (try replace rs1 := rs1.below (za.mono zb)); (try have zh := pc.lt); (try replace pc := pc.below (za.mono zb)); simp only [zo])
 (refine Z7 rfl _ _ rfl _ rfl _ _ _ rfl f6 (qG B (by omega) ?_); have f6o := f6; clear f6 B; intro wn f6 ze zf zg B; replace rs1 := rs1.chg f6o (by simp) ze; (try replace r2 := r2.of_eq (ze.block _ r2.lt (by omega))); (try replace r3 := r3.of_eq (ze.block _ r3.lt (by omega))); (try replace r4 := r4.of_eq (ze.block _ r4.lt (by omega))); (try replace e5 := e5.of_eq (ze.block _ e5.lt (by omega))); (try replace lm := lm.of_eq (ze.block _ lm.lt (by omega))); (try replace rs1 := rs1.of_eq (ze.block _ rs1.lt (by omega))); (try replace pc := pc.of_eq (ze.block _ pc.lt (by omega))); simp only [zo])
 refine wpList_nil ?_
 have k6 : b_e5 < b_f6 := by have := e5.lt; omega
 go_upto_region 4 with fail
 refine wp_region_lit ?_
 refine zy 2 ?_
 refine wpList_nil ?_
 go_upto_if 23 with fail
 go_cut [] from 22 (fun wx => ∃ (gf : FuncId) (lb : Array Value), zK 114 wx b_f6 #[.func (.func gf) #[] lb] ∧ Hid (Go.Proofs.Enters Tryz.prog gf) ∧ Hid (∀ (W : World) (p q : Px) (n : Int), zK 30 W b_r3 (jE (.slice (some ⟨g, o, none⟩) s.pts.length cd) s) → p.ok → (0 ≤ n ∧ n ≤ 255) → chP s p n = q → Calls Tryz.prog gf (#[.agg (kI.enc p), .int .i64 n] ++ lb) W fun e w' => e = .returned (.agg (kI.enc q)) ∧ Below W.heap.size W w') ∧ Below w.heap.size w wx ∧ zK 64 wx b_r2 #[.slice a ls.length c] ∧ RS (.slice a ls.length c) ls wx ∧ zK 30 wx b_r3 (jE (.slice (some ⟨g, o, none⟩) s.pts.length cd) s) ∧ zK 64 wx b_r4 #[.slice none 0 0] ∧ zK 53 wx b_e5 #[.int .i64 0] ∧ xU wx ∧ zW j3 g o s.pts wx)
 case first =>
  cases hera : s.era with
  | true =>
   have HERA := Lib.hid hera; clear hera; go_upto_region 5 with fail
   refine wp_region_lit ?_
   (refine Z7 rfl _ _ rfl _ rfl _ _ _ rfl f6 (qG B (by omega) ?_); have f6o := f6; clear f6 B; intro wn f6 ze zf zg B; replace rs1 := rs1.chg f6o (by simp) ze; (try replace r2 := r2.of_eq (ze.block _ r2.lt (by omega))); (try replace r3 := r3.of_eq (ze.block _ r3.lt (by omega))); (try replace r4 := r4.of_eq (ze.block _ r4.lt (by omega))); (try replace e5 := e5.of_eq (ze.block _ e5.lt (by omega))); (try replace lm := lm.of_eq (ze.block _ lm.lt (by omega))); (try replace rs1 := rs1.of_eq (ze.block _ rs1.lt (by omega))); (try replace pc := pc.of_eq (ze.block _ pc.lt (by omega))); simp only [zo])
   refine wpList_nil ?_; go_wp2; go_meet; refine ⟨_, _, f6, Lib.hid (enters_of Tryz.func74 (by kernel_rfl) rfl), Lib.hid (fun W p q n h1 h2 h3 h4 => ?_), B, r2, rs1, r3, r4, e5, lm, pc⟩; exact zbM p q n W h3 h2 (by rw [← h4]; unfold chP; rw [HERA.out]; rfl)
  | false =>
   have HERA := Lib.hid hera; clear hera; go_wp2; go_meet; refine ⟨_, _, f6, Lib.hid (enters_of Tryz.func72 (by kernel_rfl) rfl), Lib.hid (fun W p q n h1 h2 h3 h4 => ?_), B, r2, rs1, r3, r4, e5, lm, pc⟩; exact zbL _ s p q n b_r3 W h1 h2 HCOL.out (by rw [← h4]; unfold chP; rw [HERA.out]; rfl)
 case rest =>
  clear B r2 rs1 r3 r4 e5 lm pc f6; obtain ⟨gf, lb, f6, HEN, HCH, B, r2, rs1, r3, r4, e5, lm, pc⟩ := hcut; obtain ⟨bv, hbv⟩ : ∃ b, z2 ls = b := ⟨_, rfl⟩; have HBV := Lib.hid hbv; clear hbv; go_upto_region 6 with fail
  refine wp_region_lit ?_; refine zy 1 ?_
  refine je (enters_of Tryz.func41 (by kernel_rfl) rfl) (c := zbS _ ls bv _ rs1 TK.out hn HBV.out) (h := ?_); rintro e wn ⟨rfl, za⟩; have zf := B.size; have zg := za.size; replace B := B.trans (za.mono B.size)
  (try replace f6 := f6.below za)
  (try replace r2 := r2.below za)
  (try replace r3 := r3.below za)
  (try replace r4 := r4.below za)
  (try replace e5 := e5.below za)
  (try replace lm := lm.below za)
  (try replace rs1 := rs1.below za)
  (try replace pc := pc.below za)
  refine ⟨_, rfl, ?_⟩; simp only [zo]; refine zy 1 ?_; refine wpList_nil ?_; go_upto_if 26 with fail
  go_cut [] from 22 (fun wx => ∃ (a0 : Option Addr) (c0 : Nat), zK 114 wx b_f6 #[.func (.func gf) #[] lb] ∧ Below w.heap.size w wx ∧ zK 64 wx b_r2 #[.slice a0 (qc ls).length c0] ∧ RS (.slice a0 (qc ls).length c0) (qc ls) wx ∧ zK 30 wx b_r3 (jE (.slice (some ⟨g, o, none⟩) s.pts.length cd) s) ∧ zK 64 wx b_r4 #[.slice none 0 0] ∧ zK 53 wx b_e5 #[.int .i64 0] ∧ xU wx ∧ zW j3 g o s.pts wx)
  case first =>
   cases bv with
   | true =>
    go_wp2; go_meet; rw [xy HBV.out]; exact ⟨_, _, f6, B, r2, rs1, r3, r4, e5, lm, pc⟩
   | false =>
    go_upto_region 7 with fail
    refine wp_region_lit ?_
    (refine qv rfl (.agg #[.slice none 0 0]) (by kernel_rfl) ?_; simp only [zo])
    (refine zq (t := 64) rfl _ _ rfl _ rfl _ rfl r2 (by kernel_rfl) rfl (by simp [Value.oneCell']) (qG B (by omega) ?_); clear r2 B; intro wn r2 ze zf zg B; (try replace f6 := f6.of_eq (ze.block _ f6.lt (by omega))); (try replace r3 := r3.of_eq (ze.block _ r3.lt (by omega))); (try replace r4 := r4.of_eq (ze.block _ r4.lt (by omega))); (try replace e5 := e5.of_eq (ze.block _ e5.lt (by omega))); (try replace lm := lm.of_eq (ze.block _ lm.lt (by omega))); (try replace pc := pc.of_eq (ze.block _ pc.lt (by omega))); simp only [zo])
    refine wpList_nil ?_; go_wp2; go_meet; have hfn : qc ls = [] := by unfold qc; rw [HBV.out]; rfl
    rw [hfn]; exact ⟨_, _, f6, B, r2, RS.nil _, r3, r4, e5, lm, pc⟩
  case rest =>
   clear B r2 rs1 r3 r4 e5 lm pc f6 HBV; obtain ⟨a0, c0, f6, B, r2, rs1, r3, r4, e5, lm, pc⟩ := hcut; have VF := Lib.hid (jG ls); have TF := Lib.hid (yL TK.out); clear TK hn hc; obtain ⟨L0, hL0⟩ : ∃ l, qc ls = l := ⟨_, rfl⟩; rw [hL0] at r2 rs1 VF TF HFIN; clear hL0; have l6 := f6.lt; go_upto_region 8 with fail
   refine wp_region_lit ?_; refine zy 1 ?_
   refine je (enters_of Tryz.func58 (by kernel_rfl) rfl) (c := zb3 _ s _) (h := ?_); rintro e wn ⟨bw, rfl, hbw, r9, za⟩; have zf := B.size; have zg := za.size; replace B := B.trans (za.mono B.size)
   (try replace f6 := f6.below za)
   (try replace r2 := r2.below za)
   (try replace r3 := r3.below za)
   (try replace r4 := r4.below za)
   (try replace e5 := e5.below za)
   (try replace lm := lm.below za)
   (try replace rs1 := rs1.below za)
   (try replace pc := pc.below za)
   refine ⟨_, rfl, ?_⟩; simp only [zo]; refine wpList_nil ?_; have k7 : b_f6 < bw := by omega
   have k8 := r9.lt; obtain ⟨w1, hw1⟩ : ∃ w1, w1 = wn := ⟨_, rfl⟩; rw [← hw1] at B r2 rs1 r3 r4 e5 lm pc f6 r9 k8 ⊢; clear hw1; have hszB := B.size; go_wp2; refine (wpIn_wide (n := 3)).1 ?_; refine X3 (F := Fence.wide) rfl (by omega) (gf := 109) (lb := #[.pointer (some ⟨bw, 0, none⟩)]) rfl trivial (enters_of Tryz.func109 (by kernel_rfl) rfl) (JA s HVS.out g o cd bw b_r2 w1.heap.size _ (by omega) _ r9 hcd pc (by omega) (by omega) (by omega) (by omega) (Nat.le_refl _)) (fun h k => Zo.trans h k) (fun W l o o' hl ho hc _ => Zo.putObj W l o o' hl ho hc) (fun A B h => Zo.below h) (Below.refl _ _) (fun _ => rfl)
    (fun pre W => ∃ (a1 : Option Addr) (c1 : Nat) (M : List TA), Hid (yk s (pre.map (fun i => xg s i.val)) L0 = (M, 0)) ∧ zK 64 W b_r2 #[.slice a1 M.length c1] ∧ RS (.slice a1 M.length c1) M W ∧ zK 30 W b_r3 (jE (.slice (some ⟨g, o, none⟩) s.pts.length cd) s) ∧ zK 64 W b_r4 #[.slice none 0 0] ∧ zK 53 W b_e5 #[.int .i64 0] ∧ zK 114 W b_f6 #[.func (.func gf) #[] lb] ∧ xU W ∧ Below w.heap.size w W)
    (fun pre W => ∃ (E : Int), Hid ((yk s (pre.map (fun i => xg s i.val)) L0).2 = E ∧ E ≠ 0) ∧ zK 64 W b_r4 #[.slice none 0 0] ∧ zK 53 W b_e5 #[.int .i64 E] ∧ Below w.heap.size w W)
    (fun pre W W' row hI hg hr => ?own) (fun pre W W' row hI hg hr => ?ownX)
    ⟨a0, c0, L0, Lib.hid rfl, r2, rs1, r3, r4, e5, f6, lm, B⟩
    (fun x a' W => ∃ b7 : Nat, a'.defers = [] ∧ a'.tmps.size = 99 ∧ a'.tmps.getD 2 undef = .pointer (some ⟨b_r2, 0, none⟩) ∧ a'.tmps.getD 3 undef = .pointer (some ⟨b_r3, 0, none⟩) ∧ a'.tmps.getD 4 undef = .pointer (some ⟨b_r4, 0, none⟩) ∧ a'.tmps.getD 5 undef = .pointer (some ⟨b_e5, 0, none⟩) ∧ a'.tmps.getD 6 undef = .pointer (some ⟨b_f6, 0, none⟩) ∧ a'.tmps.getD 7 undef = .pointer (some ⟨b7, 0, none⟩) ∧ zK 45 W b7 (vZ.enc (xg s x.val)) ∧ b_f6 < b7)
    (fun x a' W W' row hA hg hr => ?own2) ?assign ?body ?done ?stop
   case own =>
    obtain ⟨a1, c1, M, h0, h1, h2, h3, h4, h5, h6, h7, h8⟩ := hI; have hne : ∀ b, b < w1.heap.size → row ≠ some b := fun b hb e => by have := (hr _ e).1; omega
    refine ⟨a1, c1, M, h0, h1.grown hg (hne _ (by omega)), h2.own3 hg (fun r e => ?_), h3.grown hg (hne _ (by omega)), h4.grown hg (hne _ (by omega)), h5.grown hg (hne _ (by omega)), h6.grown hg (hne _ (by omega)), h7.of_eq (hg.block _ h7.lt (fun e => hne _ (by omega) e.symm)), wL h8 h8.size hg (fun r e => Nat.le_trans hszB (hr r e).1)⟩; rcases (hr r e).2 with h | ⟨_, h⟩
    ·exact .inl h
    ·exact .inr h
   case ownX =>
    obtain ⟨E, h0, h4, h5, h8⟩ := hI; have hne : ∀ b, b < w1.heap.size → row ≠ some b := fun b hb e => by have := (hr _ e).1; omega
    exact ⟨E, h0, h4.grown hg (hne _ (by omega)), h5.grown hg (hne _ (by omega)), wL h8 h8.size hg (fun r e => Nat.le_trans hszB (hr r e).1)⟩
   case own2 =>
    obtain ⟨b7, e1, e2, e3, e4, e5', e6, e7, e8, h1, h2⟩ := hA; exact ⟨b7, e1, e2, e3, e4, e5', e6, e7, e8, h1.own hg (fun r e => (hr r e).2), h2⟩
   case assign =>
    intro l pre x W K ⟨_, _, _, _, _, _, _, _, _, hl6, _⟩ hbig hK; have B := Below.refl W.heap.size W; have hl := hl6.lt; obtain ⟨D, hD⟩ : ∃ p, xg s x.val = p := ⟨_, rfl⟩; rw [hD] at hK; rw [hD]
    dsimp only
    refine Yr ?_; simp only [List.setIfInBounds_toArray, List.set_cons_succ, List.set_cons_zero]; refine zE (by kernel_rfl) ?_
    (refine zr (t := 45) rfl _ (kl _ _ rfl) (zY B ?_); clear B; intro b_d7 wn zb zd d7 za zf zk B; simp only [zo])
    (refine zq (t := 45) rfl _ _ rfl _ rfl _ rfl d7 (by kernel_rfl) rfl (by simp [vZ, Value.oneCell']) (qG B (by omega) ?_); clear d7 B; intro wn d7 ze zf zg B; simp only [zo])
    refine wpList_nil ?_; refine qw.at ?_; refine hK _ _ B ⟨_, rfl, rfl, rfl, rfl, rfl, rfl, rfl, rfl, d7, by omega⟩
   case stop =>
    rintro D pre W hD ⟨k, rfl⟩ ⟨E, HE, r4, e5, BW⟩ hDD; have kd : yU W D := hDD; have hE := zaJ s k L0 HE.out.1 HE.out.2; rw [← HFIN.out] at hE; have HEQ := Lib.hid hE; clear hE; have BF := BW.trans (belowK_b (w := w) (Nat.le_refl _) W D _ (.deferred none) (by omega) kd rfl rfl); refine ⟨by simp, .inl ⟨_, _, rfl, run_takeDeferred kd, ?_⟩⟩; refine ⟨_, xD (t := 64) (u := 53) rfl _ _ b_r4 b_e5 rfl rfl ((World.putObj_heap_other (fun e => kd.ne r4 (by omega))).trans r4) (xf ((World.putObj_heap_other (fun e => kd.ne e5 (by omega))).trans e5)) Tryz.isAgg64 (by kernel_rfl), ?_⟩; rw [HEQ.out]; exact ⟨none, 0, rfl, RS.nil _, BF⟩
   case done =>
    rintro D xs W hD rfl ⟨a1, c1, M, HM, r2, rs1, r3, r4, e5, f6, lm, BW⟩ hDD; have kd : yU W D := hDD; have hM := HM.out; rw [QS] at hM; have hval := (uC HCOL.out (jR s) VF.out TF.out).1; rw [hM] at hval; rw [← HFIN.out] at hM; have hMn := (j1.1 hval).1
    dsimp only at hMn
    have HEQ := Lib.hid hM; have B := BW; have hwD : w.heap.size ≤ D := by omega
    have hne := kd.ne r4; have hne5 := kd.ne e5; clear BW r3 f6 lm hD hval hM; go_upto_region 28 with fail
    refine wp_region_lit ?_; refine zy 2 ?_
    refine je (enters_of Tryz.func78 (by kernel_rfl) rfl) (c := ym _ M _ rs1 (by omega)) (h := ?_); rintro e wn ⟨v2, b2, rfl, _, _, od2, za⟩; have zf := B.size; have zg := za.size; replace B := B.trans (za.mono B.size)
    (try replace r2 := r2.below za)
    (try replace r4 := r4.below za)
    (try replace e5 := e5.below za)
    (try replace kd := kd.below za)
    have rs2 := od2.rs; clear od2; obtain ⟨a2, c2, rfl, hc2⟩ := rs2.len; refine ⟨_, rfl, ?_⟩; simp only [zo]; refine zy 1 ?_
    (refine zq (t := 64) rfl _ _ rfl _ rfl _ rfl r4 (by kernel_rfl) rfl (by simp [Value.oneCell']) (qG B (by omega) ?_); have r4o := r4; clear r4 B; intro wn r4 ze zf zg B; (try replace rs2 := rs2.chg r4o (by simp) ze); (try replace r2 := r2.of_eq (ze.block _ r2.lt (by omega))); (try replace e5 := e5.of_eq (ze.block _ e5.lt (by omega))); (try replace kd := kd.of_eq (ze.block _ kd.lt (by omega))); simp only [zo])
    (refine wF rfl _ _ rfl _ rfl _ rfl e5 (qG B (by omega) ?_); have e5o := e5; clear e5 B; intro wn e5 ze zf zg B; replace rs2 := rs2.chg e5o (by simp) ze; (try replace r2 := r2.of_eq (ze.block _ r2.lt (by omega))); (try replace r4 := r4.of_eq (ze.block _ r4.lt (by omega))); (try replace kd := kd.of_eq (ze.block _ kd.lt (by omega))); simp only [zo])
    refine wpList_nil ?_; go_wp2; refine ⟨by simp, .inl ⟨_, _, rfl, run_takeDeferred kd, ?_⟩⟩; refine ⟨_, xD (t := 64) (u := 53) rfl _ _ b_r4 b_e5 rfl rfl ((World.putObj_heap_other (fun e => hne (by omega))).trans r4) (xf ((World.putObj_heap_other (fun e => hne5 (by omega))).trans e5)) Tryz.isAgg64 (by kernel_rfl), ?_⟩; have BF := B.trans (belowK_b (w := w) (Nat.le_refl _) wn D _ (.deferred none) hwD kd rfl rfl); rw [HEQ.out]; exact ⟨_, _, rfl, rs2.own (grownBy_putObj' _ _ _) (fun r e => by cases e; exact ⟨_, kd, rfl⟩), BF⟩
   case body =>
    rintro l pre x W ⟨tm, df⟩ ⟨a1, c1, M, HM, r2, rs1, r3, r4, e5, f6, lm, BW⟩ ⟨b7, e1, e2, e3, e4, e5', e6, e7, e8, p7, k10⟩ hpre; obtain ⟨U, hU, hUi⟩ := Vv tm 99 e2
    dsimp only at e3 e4 e5' e6 e7 e8
    rw [← hUi] at e3 e4 e5' e6 e7 e8; have eL : ((List.range 99).map U).toArray = #[U 0, U 1, U 2, U 3, U 4, U 5, U 6, U 7, U 8, U 9, U 10, U 11, U 12, U 13, U 14, U 15, U 16, U 17, U 18, U 19, U 20, U 21, U 22, U 23, U 24, U 25, U 26, U 27, U 28, U 29, U 30, U 31, U 32, U 33, U 34, U 35, U 36, U 37, U 38, U 39, U 40, U 41, U 42, U 43, U 44, U 45, U 46, U 47, U 48, U 49, U 50, U 51, U 52, U 53, U 54, U 55, U 56, U 57, U 58, U 59, U 60, U 61, U 62, U 63, U 64, U 65, U 66, U 67, U 68, U 69, U 70, U 71, U 72, U 73, U 74, U 75, U 76, U 77, U 78, U 79, U 80, U 81, U 82, U 83, U 84, U 85, U 86, U 87, U 88, U 89, U 90, U 91, U 92, U 93, U 94, U 95, U 96, U 97, U 98] := rfl; rw [eL] at hU; rw [e3, e4, e5', e6, e7, e8] at hU; subst hU; have e1 : df = [] := e1; subst e1; clear e2 e3 e4 e5' e6 e7 e8 hUi eL; have hval := uC HCOL.out (pre.map (fun i => xg s i.val)) VF.out TF.out; have HST0 : yk s ((pre ++ [x]).map (fun i => xg s i.val)) L0 = xu s (M, 0) (xg s x.val) := by
     rw [List.map_append]; show yk s (pre.map (fun i => xg s i.val) ++ [xg s x.val]) L0 = _
     rw [zaI, HM.out]
    rw [HM.out] at hval; have VM := Lib.hid hval.1; have TM := Lib.hid hval.2; have hMn := (j1.1 hval.1).1
    dsimp only at hMn
    have OKD := Lib.hid (Wx HVS.out x.isLt)
    generalize hD : xg s x.val = D at *
    obtain ⟨o1, o2, o3, o4, o5, o6⟩ := OKD.out; have HST := Lib.hid HST0; clear hD HST0 hval HM; obtain ⟨qs, hqs⟩ : ∃ q, kn D = q := ⟨_, rfl⟩; obtain ⟨c, hcc⟩ : ∃ q, Zm D = q := ⟨_, rfl⟩; have HQS := Lib.hid hqs; have HC0 := Lib.hid hcc; have HC := Lib.hid (show yf qs XS = c from by rw [← hqs, ← hcc]; rfl)
    clear hqs hcc; have R2W := Lib.hid r2; have RS1W := Lib.hid rs1; have R4W := Lib.hid r4; have E5W := Lib.hid e5; have LMW := Lib.hid lm; have BWW := Lib.hid BW; have hws := BW.size; have l2 := r2.lt; have l3 := r3.lt; have l4 := r4.lt; have l5 := e5.lt; have l6 := f6.lt; have l7 := p7.lt; have l0 := lm.lt; have B := Below.refl W.heap.size W; clear rs1 r4 e5 BW; gi_upto_region 10 with fail
    try have lx_r2 := r2.lt
    try have lx_r3 := r3.lt
    try have lx_f6 := f6.lt
    try have lx_lm := lm.lt
    try have lx_p7 := p7.lt
    refine KI (by kernel_rfl) 5 [(1, zN ?v1_1), (3, zN ?v1_3), (4, zg0 (W.heap.size) 38 #[.int .i64 0, .int .i64 0, .int .i64 0, .int .i64 0])] (by kernel_rfl) (by kernel_rfl) (by kernel_rfl) ?_
    rotate_left 2
    simp only [jZ, Nat.reduceAdd]; refine kX 1 ?_
    refine zD (by rfl) (by first | rfl | simp [Region.wanted, yielded]) ?_ ?_
    ·intro wn za hE Kx hKx
     have zf := B.size; have zg := za.size; replace B := B.trans (za.mono B.size)
     (try replace r2 := r2.below za)
     (try replace r3 := r3.below za)
     (try replace f6 := f6.below za)
     (try replace lm := lm.below za)
     (try replace p7 := p7.below za)
     refine zP rfl (enters_of Tryz.func62 (by kernel_rfl) rfl) (by simp only [Act.eval, qI]; rfl) ?_
     refine (yW D qs wn (by omega) (by omega) (by omega) HQS.out).mono ?_; rintro e wm ⟨rfl, zl⟩; refine ⟨_, rfl, ?_⟩; have hz := hKx () wm trivial zl
     dsimp only [zN] at hz
     exact hz
    rintro ⟨⟩
    dsimp only [zN]
    simp only [zo]; refine ub 1 ?_; repeat (first | go_big_quiet_skip | (go_big_quiet_want; first | ((first | refine zn (t := 38) rfl _ _ _ rfl (fun w hw => Zh (zcV lm w hw)) (by first | rfl | omega) ?_ | refine qB ?_ | refine qC ?_); simp only [zo]; go_big_quiet_on) | (go_big_quiet_op; go_big_quiet_on)))
    refine wpQuiet_nil ?_; refine zD (by rfl) (by first | rfl | simp [Region.wanted, yielded]) ?_ ?_
    ·intro wn za hE Kx hKx
     have zf := B.size; have zg := za.size; replace B := B.trans (za.mono B.size)
     (try replace r2 := r2.below za)
     (try replace r3 := r3.below za)
     (try replace f6 := f6.below za)
     (try replace lm := lm.below za)
     (try replace p7 := p7.below za)
     refine zP rfl (enters_of Tryz.func46 (by kernel_rfl) rfl) (by simp only [Act.eval, qI]; rfl) ?_
     refine (YD qs XS c wn HC.out).mono ?_; rintro e wm ⟨rfl, zl⟩; refine ⟨_, rfl, ?_⟩; have hz := hKx () wm trivial zl
     dsimp only [zN] at hz
     exact hz
    rintro ⟨⟩
    dsimp only [zN]
    simp only [zo]; refine zD (by rfl) (by first | rfl | simp [Region.wanted, yielded]) ?_ ?_
    ·intro wn za hE Kx hKx
     have zf := B.size; have zg := za.size; replace B := B.trans (za.mono B.size)
     (try replace r2 := r2.below za)
     (try replace r3 := r3.below za)
     (try replace f6 := f6.below za)
     (try replace lm := lm.below za)
     (try replace p7 := p7.below za)
     refine zQ (t := 38) _ (zZ _ _ rfl) ?_; intro b wm h1 h2 ht zl zm; exact hKx b wm ⟨Nat.le_trans za.size h1, ht⟩ (zl.mono h1)
    rintro b_c8
    dsimp only [zN, zg0]
    simp only [zo]; refine qi ?_; intro wn za hE; have zf := B.size; have zg := za.size; replace B := B.trans (za.mono B.size)
    (try replace r2 := r2.below za)
    (try replace r3 := r3.below za)
    (try replace f6 := f6.below za)
    (try replace lm := lm.below za)
    (try replace p7 := p7.below za)
    obtain ⟨hge_c8, c8⟩ : _ ∧ zK _ _ _ _ := hE 4; clear hE; try simp only [List.drop_succ_cons, List.drop_zero]
    (refine zq (t := 38) rfl _ _ rfl _ rfl _ rfl c8 (by kernel_rfl) rfl (by simp [jV, Value.oneCell']) (qG B (by omega) ?_); clear c8 B; intro wn c8 ze zf zg B; (try replace r2 := r2.of_eq (ze.block _ r2.lt (by omega))); (try replace r3 := r3.of_eq (ze.block _ r3.lt (by omega))); (try replace f6 := f6.of_eq (ze.block _ f6.lt (by omega))); (try replace lm := lm.of_eq (ze.block _ lm.lt (by omega))); (try replace p7 := p7.of_eq (ze.block _ p7.lt (by omega))); simp only [zo])
    refine wpList_nil ?_; refine zL.normal ?_; refine qw.at ?_; try dsimp only
    replace c8 : zK 38 _ b_c8 (jV c) := c8; have k11 : W.heap.size ≤ b_c8 := by omega
    by_cases hr1 : D.r < 1
    ·have q1 : decide (D.r < 1) = true := decide_eq_true hr1
     gi_upto_region 11 with fail
     refine zE (by kernel_rfl) ?_; refine zy 5 ?_
     refine qP ?hs11_5 ?_
     case hs11_5 => kernel_rfl
     simp only [zo]; refine zy 1 ?_; refine wpList_nil ?_; refine qw.at ?_; try dsimp only
     gi_wp2
     refine ⟨KeepsOthers.below B, Zo.below B, a1, c1, M, Lib.hid ?_, r2, RS1W.out.below B, r3, R4W.out.of_eq (B.block _ l4), E5W.out.of_eq (B.block _ l5), f6, lm, BWW.out.trans (B.mono hws)⟩; rw [HST.out]; exact wT s _ (by unfold Ys; rw [q1]; rfl)
    ·have q1 : decide (D.r < 1) = false := decide_eq_false hr1
     cases hem : qn c with
     | true =>
      have HEM := Lib.hid hem; clear hem; gi_upto_region 11 with fail
      refine zE (by kernel_rfl) ?_; refine zy 5 ?_
      refine je (enters_of Tryz.func45 (by kernel_rfl) rfl) (c := QB c true _ HEM.out) (h := ?_); rintro e wn ⟨rfl, za⟩; have zf := B.size; have zg := za.size; replace B := B.trans (za.mono B.size)
      (try replace r2 := r2.below za)
      (try replace r3 := r3.below za)
      (try replace f6 := f6.below za)
      (try replace lm := lm.below za)
      (try replace p7 := p7.below za)
      (try replace c8 := c8.below za)
      refine ⟨_, rfl, ?_⟩; simp only [zo]; refine zy 1 ?_; refine wpList_nil ?_; refine qw.at ?_; try dsimp only
      gi_wp2
      refine ⟨KeepsOthers.below B, Zo.below B, a1, c1, M, Lib.hid ?_, r2, RS1W.out.below B, r3, R4W.out.of_eq (B.block _ l4), E5W.out.of_eq (B.block _ l5), f6, lm, BWW.out.trans (B.mono hws)⟩; rw [HST.out]; exact wT s _ (by unfold Ys; rw [HC0.out, HEM.out]; simp)
     | false =>
      have HSK : Ys D = false := by unfold Ys; rw [HC0.out, hem, q1]; rfl
      have HEM := Lib.hid hem; clear hem; obtain ⟨HE1, HF1⟩ := Yk OKD.out HSK; rw [HC0.out] at HE1 HF1; have HST2 : yk s ((pre ++ [x]).map (fun i => xg s i.val)) L0 = (vq c (vV s D M) M, zAC c (vV s D M) M) := by rw [HST.out, XN s HSK, HC0.out]
      have HIL : vV s D M = kz c (fun x y => XO s (vR D x y) (xm M x y)) := by unfold vV; rw [HC0.out]
      have okI : OkL (vV s D M) := WK HCOL.out D TM.out; have hIn : (vV s D M).length = areaN c := by rw [Q2, HC0.out]
      have HE0 := Lib.hid HE1; have HFit := Lib.hid HF1; have HA := Lib.hid (Qm HF1); have HAW := Lib.hid (yq HF1).1; obtain ⟨f1, f2, f3, f4, f5, f6', f7, f8⟩ := HF1; have hwid : (widN c : Int) = c.x1 - c.x0 := by unfold widN; omega
      obtain ⟨Wd, hWd⟩ : ∃ n, widN c = n := ⟨_, rfl⟩; rw [hWd] at hwid; have HWD := Lib.hid hWd; clear hWd HE1; obtain ⟨I, hI⟩ : ∃ l, vV s D M = l := ⟨_, rfl⟩; rw [hI] at HST2 HIL okI hIn; have HS2 := Lib.hid HST2; have HI := Lib.hid HIL; have OKI := Lib.hid okI; clear HST2 HIL okI hI HSK HST; obtain ⟨R', hR'⟩ : ∃ l, vq c I M = l := ⟨_, rfl⟩; obtain ⟨E, hE⟩ : ∃ e, zAC c I M = e := ⟨_, rfl⟩; have HR' := Lib.hid hR'; have HEe := Lib.hid hE; clear hR' hE; gi_upto_region 11 with fail
      refine zE (by kernel_rfl) ?_; refine zy 5 ?_
      refine je (enters_of Tryz.func45 (by kernel_rfl) rfl) (c := QB c false _ HEM.out) (h := ?_); rintro e wn ⟨rfl, za⟩; have zf := B.size; have zg := za.size; replace B := B.trans (za.mono B.size)
      (try replace r2 := r2.below za)
      (try replace r3 := r3.below za)
      (try replace f6 := f6.below za)
      (try replace lm := lm.below za)
      (try replace p7 := p7.below za)
      (try replace c8 := c8.below za)
      refine ⟨_, rfl, ?_⟩; simp only [zo]; refine zy 1 ?_; refine wpList_nil ?_; refine qw.at ?_; try dsimp only
      have rs1 := RS1W.out.below B; have hc8 := c8.lt; have hszW := B.size; gi_upto_region 12 with fail
      refine zE (by kernel_rfl) ?_; refine zy 2 ?_
      refine je (enters_of Tryz.func76 (by kernel_rfl) rfl) (c := YA _ M c _ rs1 TM.out VM.out HE0.out) (h := ?_); rintro e wn ⟨cb, hcb, rfl, row, za⟩; have zf := B.size; have zg := za.size; replace B := B.trans (za.mono B.size)
      (try replace r2 := r2.below za)
      (try replace r3 := r3.below za)
      (try replace f6 := f6.below za)
      (try replace lm := lm.below za)
      (try replace p7 := p7.below za)
      (try replace c8 := c8.below za)
      (try replace row := row.below za)
      have kcb : W.heap.size ≤ cb := by omega
      have kc8 : @LT.lt Nat _ b_c8 cb := by omega
      clear rs1; refine ⟨_, rfl, ?_⟩; simp only [zo]; refine zy 3 ?_
      (have _ := row.lt; refine zr (t := 117) rfl _ (yz _ _ rfl) (zY B ?_); clear B; intro b_i9 wn zb zd i9 za zf zk B; (try have zh := r2.lt); (try replace r2 := r2.below (za.mono zb)); (try have zh := r3.lt); (try replace r3 := r3.below (za.mono zb)); (try have zh := f6.lt); (try replace f6 := f6.below (za.mono zb)); (try have zh := lm.lt); (try replace lm := lm.below (za.mono zb)); (try have zh := p7.lt); (try replace p7 := p7.below (za.mono zb)); (try have zh := c8.lt); (try replace c8 := c8.below (za.mono zb)); (try have zh := row.lt); (try replace row := row.below (za.mono zb)); simp only [zo])
      (refine zq (t := 117) rfl _ _ rfl _ rfl _ rfl i9 (by kernel_rfl) rfl (by simp [xA, Value.oneCell']) (qG B (by omega) ?_); clear i9 B; intro wn i9 ze zf zg B; (try replace r2 := r2.of_eq (ze.block _ r2.lt (by omega))); (try replace r3 := r3.of_eq (ze.block _ r3.lt (by omega))); (try replace f6 := f6.of_eq (ze.block _ f6.lt (by omega))); (try replace lm := lm.of_eq (ze.block _ lm.lt (by omega))); (try replace p7 := p7.of_eq (ze.block _ p7.lt (by omega))); (try replace c8 := c8.of_eq (ze.block _ c8.lt (by omega))); (try replace row := row.of_eq (ze.block _ row.lt (by omega))); simp only [zo])
      refine zy 1 ?_; refine wpList_nil ?_; refine qw.at ?_; try dsimp only
      replace i9 : zK 117 _ b_i9 (xA c (.slice (some ⟨cb, 0, none⟩) (areaN c) (areaN c))) := i9; have kci : b_i9 ≠ cb := by omega
      clear lm r2; gi_upto_region 13 with fail
      refine zE (by kernel_rfl) ?_; refine zy 1 ?_; refine wpList_nil ?_; refine qw.at ?_; try dsimp only
      gi_upto_region 14 with fail
      refine zE (by kernel_rfl) ?_; refine zy 3 ?_
      refine wpList_nil ?_; refine qw.at ?_; try dsimp only
      gi_wp2
      gi_loopw [11, 12, 13, 14] (fun kv yv _ _ wr => ∃ (i k : Nat) (R : List Px), (i : Int) ≤ c.y1 - c.y0 ∧ Hid (k = i * Wd) ∧ kv = .int .i64 (k : Int) ∧ yv = .int .i64 (c.y0 + (i : Int)) ∧ Hid (kY c (fun x y => XO s (vR D x y) (xm M x y)) (fun x y => xm M x y) k = R) ∧ Below W.heap.size W wr ∧ zK 45 wr b7 (vZ.enc D) ∧ zK 38 wr b_c8 (jV c) ∧ zK 117 wr b_i9 (xA c (.slice (some ⟨cb, 0, none⟩) (areaN c) (areaN c))) ∧ zK 114 wr b_f6 #[.func (.func gf) #[] lb] ∧ zK 30 wr b_r3 (jE (.slice (some ⟨g, o, none⟩) s.pts.length cd) s) ∧ jz kI wr cb R) (fun _ yv _ _ _ => (c.y1 - intOf yv).toNat)
      case atStart => exact ⟨0, 0, _, by omega, Lib.hid (by rw [Nat.zero_mul]), rfl, by rw [Int.natCast_zero, Int.add_zero], Lib.hid (zaL c M _), B, p7, c8, i9, f6, r3, row⟩
      case round =>
       clear B p7 c8 i9 f6 r3 row; obtain ⟨i, k, R, hi, HK, rfl, rfl, HR, B, p7, c8, i9, f6, r3, row⟩ := hrel; by_cases hi1 : (i : Int) < c.y1 - c.y0
       ·have q2 : decide (c.y0 + (i : Int) < c.y1) = true := decide_eq_true (by omega)
        gi_upto_region 15 with fail
        refine zE (by kernel_rfl) ?_; refine zy 4 ?_
        refine wpList_nil ?_; refine qw.at ?_; try dsimp only
        gi_upto_region 17 with fail
        refine zE (by kernel_rfl) ?_; refine zy 3 ?_
        refine wpList_nil ?_; refine qw.at ?_; try dsimp only
        gi_wp2
        gi_loopw [11, 13, 14] (fun kv xv _ wr => ∃ (j k : Nat) (R : List Px), (j : Int) ≤ c.x1 - c.x0 ∧ Hid (k = i * Wd + j) ∧ kv = .int .i64 (k : Int) ∧ xv = .int .i64 (c.x0 + (j : Int)) ∧ Hid (kY c (fun x y => XO s (vR D x y) (xm M x y)) (fun x y => xm M x y) k = R) ∧ Below W.heap.size W wr ∧ zK 45 wr b7 (vZ.enc D) ∧ zK 38 wr b_c8 (jV c) ∧ zK 117 wr b_i9 (xA c (.slice (some ⟨cb, 0, none⟩) (areaN c) (areaN c))) ∧ zK 114 wr b_f6 #[.func (.func gf) #[] lb] ∧ zK 30 wr b_r3 (jE (.slice (some ⟨g, o, none⟩) s.pts.length cd) s) ∧ jz kI wr cb R) (fun _ xv _ _ => (c.x1 - intOf xv).toNat)
        case atStart => exact ⟨0, k, R, by omega, Lib.hid (by rw [Nat.add_zero]; exact HK.out), rfl, by rw [Int.natCast_zero, Int.add_zero], HR, B, p7, c8, i9, f6, r3, row⟩
        case round =>
         clear B p7 c8 i9 f6 r3 row HR HK; obtain ⟨j, k, R, hj, HK, rfl, rfl, HR, B, p7, c8, i9, f6, r3, row⟩ := hrel; by_cases hj1 : (j : Int) < c.x1 - c.x0
         ·have q3 : decide (c.x0 + (j : Int) < c.x1) = true := decide_eq_true (by omega)
          have hat := zcH HFit.out (fun x y => XO s (vR D x y) (xm M x y)) (fun x y => xm M x y) (i := i) (j := j) hj1 hi1; rw [HWD.out] at hat; simp only [← Nat.add_assoc, ← HK.out] at hat; obtain ⟨hka, hp, hset, hsame⟩ := hat; have okp : (xm M (c.x0 + (j : Int)) (c.y0 + (i : Int))).ok := kt TM.out _ _ _ (by omega); obtain ⟨p, hpe⟩ : ∃ p, xm M (c.x0 + (j : Int)) (c.y0 + (i : Int)) = p := ⟨_, rfl⟩; obtain ⟨n, hn⟩ : ∃ n, vR D (c.x0 + (j : Int)) (c.y0 + (i : Int)) = n := ⟨_, rfl⟩; have hnb := zee D (c.x0 + (j : Int)) (c.y0 + (i : Int)); rw [hpe] at hp hset hsame okp; rw [hn] at hset hsame hnb; rw [HR.out] at hp hset hsame; have HN := Lib.hid hn; have OKP := Lib.hid okp; have hRl : R.length = areaN c := by rw [← HR.out]; exact zcE _ _ _ _
          have hA2 := HA.out; have hkR : k < R.length := by omega
          have HP := Lib.hid hp; clear hn hpe okp hp; gi_upto_region 18 with fail
          refine zE (by kernel_rfl) ?_; refine zy 4 ?_
          refine wpList_nil ?_; refine qw.at ?_; try dsimp only
          gi_upto_region 20 with fail
          refine zE (by kernel_rfl) ?_; refine zy 3 ?_
          refine je (enters_of Tryz.func24 (by kernel_rfl) rfl) (c := V7 D (c.x0 + (j : Int)) (c.y0 + (i : Int)) n _ (by omega) (by omega) (by omega) HN.out) (h := ?_); rintro e wn ⟨rfl, za⟩; have zf := B.size; have zg := za.size; replace B := B.trans (za.mono B.size)
          (try replace p7 := p7.below za)
          (try replace c8 := c8.below za)
          (try replace i9 := i9.below za)
          (try replace f6 := f6.below za)
          (try replace r3 := r3.below za)
          (try replace row := row.below za)
          refine ⟨_, rfl, ?_⟩; simp only [zo]; refine zy 1 ?_; refine wpList_nil ?_; refine qw.at ?_; try dsimp only
          by_cases hn0 : 0 < n
          ·have q4 : decide (0 < n) = true := decide_eq_true hn0
           have q4' : decide (n > 0) = true := decide_eq_true hn0; obtain ⟨q, hq⟩ : ∃ q, chP s p n = q := ⟨_, rfl⟩; rw [WL, if_pos hn0, hq] at hset; have HQ := Lib.hid hq; have HSET := Lib.hid hset; clear hq hset hsame; gi_upto_region 21 with fail
           refine zE (by kernel_rfl) ?_; refine zy 2 ?_; refine wpList_nil ?_; refine qw.at ?_; try dsimp only
           have rc := row.cells; have q5 : decide ((k : Int) < (areaN c : Int)) = true := decide_eq_true (by omega); have q6 : decide (k < areaN c) = true := decide_eq_true hka; gi_upto_region 22 with fail
           try have lx_p7 := p7.lt
           try have lx_c8 := c8.lt
           try have lx_i9 := i9.lt
           try have lx_f6 := f6.lt
           try have lx_r3 := r3.lt
           try have lx_row := row.lt
           try have lx_rc := rc.lt
           refine KI (by kernel_rfl) 12 [(10, zN ?v2_10)] (by kernel_rfl) (by kernel_rfl) (by kernel_rfl) ?_
           rotate_left 1
           simp only [jZ, Nat.reduceAdd]; refine ub 10 ?_; repeat (first | go_big_quiet_skip | (go_big_quiet_want; first | ((first | refine zn (t := 115) rfl _ _ _ rfl (fun w hw => xh (uA (zB i9 w hw))) (by first | rfl | omega) ?_ | refine zn (t := 114) rfl _ _ _ rfl (fun w hw => KR (zB f6 w hw)) (by rfl) ?_ | refine zn (t := 28) rfl _ _ _ rfl (fun w hw => (jX rc w hw).load Tryz.isAgg28 HP.out) (by first | rfl | omega) ?_ | refine qB ?_ | refine qC ?_); simp only [zo]; go_big_quiet_on) | (go_big_quiet_op; go_big_quiet_on)))
           refine wpQuiet_nil ?_; refine zD (by rfl) (by first | rfl | simp [Region.wanted, yielded]) ?_ ?_
           ·intro wn za hE Kx hKx
            have zf := B.size; have zg := za.size; replace B := B.trans (za.mono B.size)
            (try replace p7 := p7.below za)
            (try replace c8 := c8.below za)
            (try replace i9 := i9.below za)
            (try replace f6 := f6.below za)
            (try replace r3 := r3.below za)
            (try replace row := row.below za)
            (try replace rc := rc.below za)
            refine Vg rfl (by simp only [Act.eval, qI]; rfl) HEN.out (by simp only [Act.eval, qI]; rfl) ?_
            refine (HCH.out wn p q n r3 OKP.out hnb HQ.out).mono ?_; rintro e wm ⟨rfl, zl⟩; refine ⟨_, rfl, ?_⟩; have hz := hKx () wm trivial zl
            dsimp only [zN] at hz
            exact hz
           rintro ⟨⟩
           dsimp only [zN]
           simp only [zo]; refine kX 1 ?_; refine qi ?_; intro wn za hE; have zf := B.size; have zg := za.size; replace B := B.trans (za.mono B.size)
           (try replace p7 := p7.below za)
           (try replace c8 := c8.below za)
           (try replace i9 := i9.below za)
           (try replace f6 := f6.below za)
           (try replace r3 := r3.below za)
           (try replace row := row.below za)
           (try replace rc := rc.below za)
           clear hE; try simp only [List.drop_succ_cons, List.drop_zero]
           clear rc
           (refine vQ rfl _ _ rfl _ _ rfl q rfl row k hkR (by first | rfl | omega) (qG B (by omega) ?_); clear row B; intro wn row ze zf zg B; (try replace p7 := p7.of_eq (ze.block _ p7.lt (by omega))); (try replace c8 := c8.of_eq (ze.block _ c8.lt (by omega))); (try replace i9 := i9.of_eq (ze.block _ i9.lt (by omega))); (try replace f6 := f6.of_eq (ze.block _ f6.lt (by omega))); (try replace r3 := r3.of_eq (ze.block _ r3.lt (by omega))); simp only [zo])
           refine wpList_nil ?_; refine zL.normal ?_; refine qw.at ?_; try dsimp only
           rw [HSET.out] at row; gi_upto_region 23 with fail
           refine zE (by kernel_rfl) ?_; refine zy 3 ?_; refine wpList_nil ?_; refine qw.at ?_; try dsimp only
           gi_upto_region 19 with fail
           refine zE (by kernel_rfl) ?_; refine zy 3 ?_; refine wpList_nil ?_; refine qw.at ?_; try dsimp only
           gi_wp2
           go_roundw
           case rel => exact ⟨j + 1, k + 1, _, by omega, Lib.hid (by rw [HK.out, Nat.add_assoc]), by go_num, by go_num, Lib.hid rfl, B, p7, c8, i9, f6, r3, row⟩
           case measure => simp [intOf]; omega
          ·have q4 : decide (0 < n) = false := decide_eq_false hn0
           have q4' : decide (n > 0) = false := decide_eq_false hn0; rw [WL, if_neg hn0] at hsame; have HSAME := Lib.hid (hsame rfl); clear hset hsame; gi_upto_region 21 with fail
           refine zE (by kernel_rfl) ?_; refine zy 2 ?_; refine wpList_nil ?_; refine qw.at ?_; try dsimp only
           gi_upto_region 23 with fail
           refine zE (by kernel_rfl) ?_; refine zy 3 ?_; refine wpList_nil ?_; refine qw.at ?_; try dsimp only
           gi_upto_region 19 with fail
           refine zE (by kernel_rfl) ?_; refine zy 3 ?_; refine wpList_nil ?_; refine qw.at ?_; try dsimp only
           gi_wp2
           go_roundw
           case rel => exact ⟨j + 1, k + 1, R, by omega, Lib.hid (by rw [HK.out, Nat.add_assoc]), by go_num, by go_num, HSAME, B, p7, c8, i9, f6, r3, row⟩
           case measure => simp [intOf]; omega
         ·have q3 : decide (c.x0 + (j : Int) < c.x1) = false := decide_eq_false (by omega)
          have HKN := Lib.hid (show k = (i + 1) * Wd from by rw [Nat.add_mul, Nat.one_mul, HK.out]; omega)
          gi_upto_region 18 with fail
          refine zE (by kernel_rfl) ?_; refine zy 4 ?_
          refine wpList_nil ?_; refine qw.at ?_; try dsimp only
          gi_upto_region 16 with fail
          refine zE (by kernel_rfl) ?_; refine zy 3 ?_; refine wpList_nil ?_; refine qw.at ?_; try dsimp only
          gi_wp2
          go_roundw
          case rel => exact ⟨i + 1, k, R, by omega, HKN, rfl, by go_num, HR, B, p7, c8, i9, f6, r3, row⟩
          case measure => simp [intOf]; omega
       ·have q2 : decide (c.y0 + (i : Int) < c.y1) = false := decide_eq_false (by omega)
        have hiH : i = (c.y1 - c.y0).toNat := by omega
        have hkA : k = areaN c := by rw [HK.out, HAW.out, HWD.out, hiH, Nat.mul_comm]
        have hRI : R = I := by rw [← HR.out, hkA, zcD, ← HI.out]
        subst hRI; clear hkA hiH HR; gi_upto_region 15 with fail
        refine zE (by kernel_rfl) ?_; refine zy 4 ?_
        refine wpList_nil ?_; refine qw.at ?_; try dsimp only
        gi_upto_region 24 with fail
        have r2 := R2W.out.of_eq (B.block _ l2); have rs1 := RS1W.out.below B; have hu := row.rs; rw [hIn] at hu; have hA2 := HA.out; gi_upto_region 24 with fail
        refine zE (by kernel_rfl) ?_; refine j4 2 ?_
        repeat (first | go_big_quiet_skip | (go_big_quiet_want; first | ((first | refine zn (t := 117) rfl _ _ _ rfl (fun w hw => Zg (zB i9 w hw)) (by first | rfl | omega) ?_ | refine qB ?_ | refine qC ?_); simp only [zo]; go_big_quiet_on) | (go_big_quiet_op; go_big_quiet_on)))
        refine wpQuiet_nil ?_; refine je (enters_of Tryz.func77 (by kernel_rfl) rfl) (c := zbP _ M R' E c _ R _ rs1 TM.out (by unfold maxLen; omega) hu (by rw [hIn]; unfold maxLen; omega) OKI.out HR'.out HEe.out) (h := ?_)
        rintro e wn ⟨a5, c5, rfl, rs5, za⟩; have zf := B.size; have zg := za.size; replace B := B.trans (za.mono B.size)
        (try replace r2 := r2.below za)
        (try replace f6 := f6.below za)
        (try replace r3 := r3.below za)
        clear rs1 hu row; refine ⟨_, rfl, ?_⟩; simp only [zo]; refine zy 3 ?_
        (refine zr (t := 64) rfl _ (qA _ _ rfl) (zY B ?_); clear B; intro b_t15 wn zb zd t15 za zf zk B; (try have zh := r2.lt); (try replace r2 := r2.below (za.mono zb)); (try have zh := i9.lt); (try have zh := f6.lt); (try replace f6 := f6.below (za.mono zb)); (try have zh := r3.lt); (try replace r3 := r3.below (za.mono zb)); (try have zh := rs5.lt); (try replace rs5 := rs5.below (za.mono zb)); simp only [zo])
        (refine zq (t := 64) rfl _ _ rfl _ rfl _ rfl t15 (by kernel_rfl) rfl (by simp [Value.oneCell']) (qG B (by omega) ?_); have t15o := t15; clear t15 B; intro wn t15 ze zf zg B; (try replace rs5 := rs5.chg t15o (by simp) ze); (try replace r2 := r2.of_eq (ze.block _ r2.lt (by omega))); (try replace f6 := f6.of_eq (ze.block _ f6.lt (by omega))); (try replace r3 := r3.of_eq (ze.block _ r3.lt (by omega))); simp only [zo])
        refine zy 1 ?_; refine wpList_nil ?_; refine qw.at ?_; try dsimp only
        have hrs5 : R'.length ≤ R'.length := Nat.le_refl _; have hws5 := B.size; by_cases hE0 : E = 0
        ·subst hE0
         gi_upto_region 25 with fail
         refine zE (by kernel_rfl) ?_; refine zy 2 ?_; refine wpList_nil ?_; refine qw.at ?_; try dsimp only
         gi_upto_region 27 with fail
         refine zE (by kernel_rfl) ?_; refine zy 1 ?_
         (refine zq (t := 64) rfl _ _ rfl _ rfl _ rfl r2 (by kernel_rfl) rfl (by simp [Value.oneCell']) ?_; intro wn ht ze zg; have r2o := r2; clear r2; have r2 := ht; clear ht; simp only [zo])
         refine wpList_nil ?_; refine qw.at ?_; try dsimp only
         gi_wp2
         have CH := (qV.of_below (b := b_r2) B).trans ze; refine ⟨KeepsOthers.chgB CH R2W.out, (Zo.below B).trans (Zo.exc ze.size (fun j h1 h2 => ze.block j h1 h2) r2o (by decide)), a5, c5, R', Lib.hid ?_, r2, rs5.chg r2o (by simp) ze, r3.of_eq (ze.block _ r3.lt (by omega)), ?_, ?_, f6.of_eq (ze.block _ f6.lt (by omega)), ?_, qV.below (BWW.out.trans (B.mono hws)) ze k2 (Nat.le_trans hws hws5)⟩
         ·rw [HS2.out, HR'.out, HEe.out]
         ·have h4 := R4W.out.of_eq (B.block _ l4)
          exact h4.of_eq (ze.block _ h4.lt (by omega))
         ·have h5 := E5W.out.of_eq (B.block _ l5)
          exact h5.of_eq (ze.block _ h5.lt (by omega))
         ·have h0 := LMW.out.below B
          exact h0.of_eq (ze.block _ h0.lt (by omega))
        ·have q7 : (E != 0) = true := by simpa using hE0
         gi_upto_region 25 with fail
         refine zE (by kernel_rfl) ?_; refine zy 2 ?_; refine wpList_nil ?_; refine qw.at ?_; try dsimp only
         have r4 := R4W.out.of_eq (B.block _ l4); have e5 := E5W.out.of_eq (B.block _ l5); have BE := BWW.out.trans (B.mono hws); have KE := KeepsOthers.below B; gi_upto_region 26 with fail
         refine zE (by kernel_rfl) ?_
         (refine qv rfl (.agg #[.slice none 0 0]) (by kernel_rfl) ?_; simp only [zo])
         refine zy 1 ?_
         (refine zq (t := 64) rfl _ _ rfl _ rfl _ rfl r4 (by kernel_rfl) rfl (by simp [Value.oneCell']) ?_; have HTO := r4; clear r4; intro wn ht ze zg; replace zg := Nat.le_of_eq zg.symm; replace BE := qV.below BE ze (by omega) BE.size; replace KE := KE.trans (KeepsOthers.chgB ze HTO); (try replace e5 := e5.of_eq (ze.block _ e5.lt (by omega))); have r4 := ht; clear ht; simp only [zo])
         (refine wF rfl _ _ rfl _ rfl _ rfl e5 ?_; have HTO := e5; clear e5; intro wn ht ze zg; replace zg := Nat.le_of_eq zg.symm; replace BE := qV.below BE ze (by omega) BE.size; replace KE := KE.trans (KeepsOthers.chgB ze HTO); (try replace r4 := r4.of_eq (ze.block _ r4.lt (by omega))); have e5 := ht; clear ht; simp only [zo])
         refine wpList_nil ?_; refine qw.at ?_; try dsimp only
         gi_wp2
         exact ⟨KE, rfl, E, Lib.hid ⟨by rw [HS2.out, HEe.out], hE0⟩, r4, e5, BE⟩
end Go.Proofs.YtepelndbbhdofaaGreatDoor
/- Contracts: Paint of package stroke, refused; Paint of its reference. -/
namespace Go.Proofs.YtepelndbbhdofaaGreatDoor
open Go.RowKit Go.Shelf Pl
set_option linter.unusedVariables false
set_option linter.unusedSimpArgs false
set_option maxRecDepth 20000
theorem Vm (v vs : Value) (s : jd) (ls : List TA) (w : World) (h : RS v ls w) (rs : xp j3 vs s.pts w) (hn : s.pts.length ≤ 17592186044416) (hv : j2 s = false) : Calls Tryz.prog 30 #[.agg #[v], .agg (jE vs s)] w fun e w' => e = .returned (.tuple #[.agg #[.slice none 0 0], .int .i64 1]) ∧ Below w.heap.size w w' := by
 have B := Below.refl w.heap.size w
 have HV0 := Lib.hid hv
 obtain ⟨ad, cd, rfl, hcd⟩ := rs.len
 obtain ⟨a, c, rfl, hc⟩ := h.len
 clear hv h
 go_enter Tryz.func30, Tryz.ntmps30
 go_upto_region 0 with fail
 refine wp_region_lit ?_
 (refine zt (t := 64) rfl _ rfl _ rfl (zY B ?_); clear B; intro b_r2 wn zb zd r2 za zf zk B; (try have zh := rs.lt); (try replace rs := rs.below (za.mono zb)); simp only [zo])
 (refine zt (t := 30) rfl _ rfl _ rfl (zY B ?_); clear B; intro b_r3 wn zb zd r3 za zf zk B; (try have zh := r2.lt); (try have zh := rs.lt); (try replace rs := rs.below (za.mono zb)); simp only [zo])
 (refine zr (t := 64) rfl _ (qA _ _ rfl) (zY B ?_); clear B; intro b_r4 wn zb zd r4 za zf zk B; (try have zh := r2.lt); (try have zh := r3.lt); (try replace r3 := r3.below (za.mono zb)); (try have zh := rs.lt); (try replace rs := rs.below (za.mono zb)); simp only [zo])
 (refine zr (t := 53) rfl _ (Ze _ _ rfl) (zY B ?_); clear B; intro b_e5 wn zb zd e5 za zf zk B; (try have zh := r2.lt); (try have zh := r3.lt); (try replace r3 := r3.below (za.mono zb)); (try have zh := r4.lt); (try replace r4 := r4.below (za.mono zb)); (try have zh := rs.lt); (try replace rs := rs.below (za.mono zb)); simp only [zo])
 refine wpList_nil ?_
 have k5 : b_r4 < b_e5 := by have := r4.lt; omega
 go_upto_region 1 with fail
 refine wp_region_lit ?_
 refine zy 1 ?_
 refine je (enters_of Tryz.func16 (by kernel_rfl) rfl) (c := xM _ s false _ rs hn HV0.out) (h := ?_)
 rintro e wn ⟨rfl, za⟩
 have zf := B.size
 have zg := za.size
 replace B := B.trans (za.mono B.size)
 (try replace r4 := r4.below za)
 (try replace e5 := e5.below za)
 refine ⟨_, rfl, ?_⟩
 simp only [zo]
 refine zy 1 ?_
 refine wpList_nil ?_
 go_upto_region 2 with fail
 refine wp_region_lit ?_
 (refine qv rfl (.agg #[.slice none 0 0]) (by kernel_rfl) ?_; simp only [zo])
 (refine zq (t := 64) rfl _ _ rfl _ rfl _ rfl r4 (by kernel_rfl) rfl (by simp [Value.oneCell']) (qG B (by omega) ?_); clear r4 B; intro wn r4 ze zf zg B; (try replace e5 := e5.of_eq (ze.block _ e5.lt (by omega))); simp only [zo])
 (refine wF rfl _ _ rfl _ rfl _ rfl e5 (qG B (by omega) ?_); clear e5 B; intro wn e5 ze zf zg B; (try replace r4 := r4.of_eq (ze.block _ r4.lt (by omega))); simp only [zo])
 refine wpList_nil ?_
 first | (refine bodyPost_ret (xD (t := 64) (u := 53) rfl _ _ b_r4 b_e5 rfl rfl r4 (xf e5) Tryz.isAgg64 (by kernel_rfl)) rfl ?_) | (go_step; refine bodyPost_ret (xD (t := 64) (u := 53) rfl _ _ b_r4 b_e5 rfl rfl r4 (xf e5) Tryz.isAgg64 (by kernel_rfl)) rfl ?_) | (go_step; go_step; refine bodyPost_ret (xD (t := 64) (u := 53) rfl _ _ b_r4 b_e5 rfl rfl r4 (xf e5) Tryz.isAgg64 (by kernel_rfl)) rfl ?_) | (go_step; go_step; go_step; refine bodyPost_ret (xD (t := 64) (u := 53) rfl _ _ b_r4 b_e5 rfl rfl r4 (xf e5) Tryz.isAgg64 (by kernel_rfl)) rfl ?_) | (go_step; go_step; go_step; go_step; refine bodyPost_ret (xD (t := 64) (u := 53) rfl _ _ b_r4 b_e5 rfl rfl r4 (xf e5) Tryz.isAgg64 (by kernel_rfl)) rfl ?_) | (go_step; go_step; go_step; go_step; go_step; refine bodyPost_ret (xD (t := 64) (u := 53) rfl _ _ b_r4 b_e5 rfl rfl r4 (xf e5) Tryz.isAgg64 (by kernel_rfl)) rfl ?_)
 exact ⟨rfl, B⟩
/-- Paint of package stroke. -/
theorem YE (v vs : Value) (s : jd) (ls ks : List TA) (E : Int) (w : World) (lm : xU w) (h : RS v ls w) (tk : qN ls) (hn : ls.length ≤ maxLen) (rs : xp j3 vs s.pts w) (hn2 : s.pts.length ≤ 17592186044416) (hcol : s.col.ok) (e : jk s ls = (ks, E)) : Calls Tryz.prog 30 #[.agg #[v], .agg (jE vs s)] w fun e w' => ∃ a cp, e = .returned (.tuple #[.agg #[.slice a ks.length cp], .int .i64 E]) ∧ RS (.slice a ks.length cp) ks w' ∧ Below w.heap.size w w' := by
 cases hv : j2 s with
 | true =>
  have := Vn v vs s ls w lm h tk hn rs hv hcol; rw [e] at this; exact this
 | false =>
  have e1 : jk s ls = ([], 1) := if_neg (by rw [hv]; simp)
  rw [e1] at e
  injection e with e1 e2
  subst e1 e2; exact (Vm v vs s ls w h rs hn2 hv).mono fun e w' ⟨h1, h2⟩ => ⟨none, 0, h1, RS.nil _, h2⟩
/-! ### The reference -/
/-- The pixels so far. -/
def zig (c : Rc) (F : Int → Int → Px) (k : Nat) : List Px := (List.range k).map fun j => F (vW c j) (vX c j)
end Go.Proofs.YtepelndbbhdofaaGreatDoor
/- The values of the sanity check of chapter 14's laws; slice literals; line. -/
namespace Go.Proofs.YtepelndbbhdofaaGreatDoor
open Go.RowKit Go.Shelf Pl Sha
set_option linter.unusedVariables false
set_option linter.unusedSimpArgs false
set_option maxRecDepth 20000
section
variable {α : Type} {k : Nat} {T ST : TypeId} {E : Xq α k T ST}
theorem zaD (ls : List α) (cs : Array Value) (hs : cs.size = ls.length * k) : Instr.fill (fun i => some (i * k, k)) cs (((ls.map fun x => Value.agg (E.enc x)).zipIdx 0).map fun y => (y.2, y.1)) = some (xW E ls).toArray := by
 obtain ⟨r, hr1, hr2, hr3⟩ := Great.fill_dense E.pos (ls.map fun x => Value.agg (E.enc x)) 0 cs (fun v hv => by obtain ⟨x, _, rfl⟩ := List.mem_map.1 hv; simp only [Value.cells, E.size]) (by rw [List.length_map, hs, Nat.zero_add]; exact Nat.le_refl _)
 rw [hr1]
 congr 1
 apply Array.ext_getElem?
 intro j
 have hr : (xW E ls).toArray[j]? = (xW E ls)[j]? := by rw [List.getElem?_toArray]
 rw [hr3 j, List.length_map, hr, Nat.zero_add]
 by_cases h : j < ls.length * k
 ·obtain ⟨h1, h2, h3⟩ := uy E.pos h
  have hx : ls[j / k]? = some ls[j / k] := List.getElem?_eq_getElem h1; have h4 := Zc E ls (j / k) _ hx (j % k) h2; rw [← h3] at h4; rw [if_pos ⟨by rw [Nat.zero_mul]; omega, h⟩, h4, Nat.sub_zero, List.getElem?_map, hx]
  simp only [Option.map_some, Option.bind_some, Value.cells]
 ·rw [if_neg (fun h' => h h'.2), Array.getElem?_eq_none (by rw [hs]; exact Nat.le_of_not_lt h), List.getElem?_eq_none (by rw [xE]; exact Nat.le_of_not_lt h)]
variable {ops : Array Oper} {rest : List Oper} {o : Oper} {a : Act} {w : World} {Q : Exit → Act → World → Prop}
theorem zcY {K : Act → World → Prop} (n : Nat) (ps : Array (Nat × Operand)) (ho : o.op = .buildSlice ST n ps) (ls : List α) (hl : ls.length = n) (hp : (ps.map fun (i, x) => (i, a.eval x)).toList = ((ls.map fun x => Value.agg (E.enc x)).zipIdx 0).map fun y => (y.2, y.1)) (hn : 0 < n) (hk : n * k ≤ 1000)
  (h : ∀ b w', w.heap.size ≤ b → b ≤ w.heap.size → jz E w' b ls → Below b w w' → w'.heap.size = b + 1 → K (a.put o.dst (.slice (some ⟨b, 0, none⟩) n n)) w') : o.wp Tryz.prog a w K Q := by
 obtain ⟨i, z, hi, hz, zf, hby, hzc⟩ := E.facts
 have hp0 := Nat.mul_pos hn E.pos
 refine wp_buildSlice ST T n ps ho (xW E ls).toArray i z E.und hi hz (by rw [zf]; omega) (by rw [zf]; omega) ?_ (h _ _ (Nat.le_refl _) (Nat.le_refl _) (by unfold jz zK; rw [zO, if_pos rfl]) ((Below.refl _ _).alloc (Nat.le_refl _) _) (World.size_alloc _ _))
 rw [zf, hp]
 exact zaD ls _ (by rw [hl]; simp)
theorem Z6 (hw : Region.wanted o (yielded ops a.tmps) = true) (n : Nat) (ps : Array (Nat × Operand)) (ho : o.op = .buildSlice ST n ps) (ls : List α) (hl : ls.length = n) (hp : (ps.map fun (i, x) => (i, a.eval x)).toList = ((ls.map fun x => Value.agg (E.enc x)).zipIdx 0).map fun y => (y.2, y.1)) (hn : 0 < n) (hk : n * k ≤ 1000)
  (h : ∀ b w', w.heap.size ≤ b → b ≤ w.heap.size → jz E w' b ls → Below b w w' → w'.heap.size = b + 1 → wpList Tryz.prog ops Q rest (a.put o.dst (.slice (some ⟨b, 0, none⟩) n n)) w') : wpList Tryz.prog ops Q (o :: rest) a w := by
 unfold wpList
 rw [if_pos hw]
 exact .inl (zcY n ps ho ls hl hp hn hk h)
end
/-! ### The example -/
def qO : jd := ⟨[⟨0, 0, 255⟩, ⟨100, 0, 255⟩, ⟨100, 30, 255⟩], 16, 40, ⟨200, 0, 0, 255⟩, false, 10⟩
def vP : List Db := [⟨10, 0, 16⟩, ⟨50, 0, 16⟩, ⟨90, 0, 16⟩]
theorem ln1 : j2 qO = true := by decide +kernel
theorem ln2 : y9 qO = vP := by decide +kernel
theorem ln3 : (spB qO 1).pha = 30 := by decide +kernel
theorem ln4 : y9 (spB qO 1) = [] := by decide +kernel
theorem ln5 : vR ⟨8, 8, 8⟩ 0 0 = 191 := by decide +kernel
theorem ln6 : uQ qO = ⟨-1, -1, 7, 2⟩ := by decide +kernel
theorem ln7 : j2 zSt = false := by decide +kernel
theorem ln8 : uj [] = (zSt, 10) := Jj (by decide)
theorem vk : qO.col.ok := by unfold Px.ok qO; simp
theorem ln9 : uj (ys qO) = (qO, 0) := VY ((xk _).1 ln1) vk
def zcb : Rc := ⟨-1, -1, 1, 1⟩
theorem VH : ∀ d ∈ vP, VJ d ∧ zbr zcb d := fun d hd => by
 have hc : d = ⟨10, 0, 16⟩ ∨ d = ⟨50, 0, 16⟩ ∨ d = ⟨90, 0, 16⟩ := by simpa [vP] using hd
 rcases hc with rfl | rfl | rfl
 ·refine ⟨by unfold VJ; decide, fun _ x y h => ?_⟩
  have e : zAA (Zm ⟨10, 0, 16⟩) = ⟨-1, -1, 1, 1⟩ := by decide +kernel
  rw [e] at h; exact h
 ·refine ⟨by unfold VJ; decide, fun _ x y h => ?_⟩
  have e : zAA (Zm ⟨50, 0, 16⟩) = ⟨0, -1, 1, 1⟩ := by decide +kernel
  rw [e] at h; rw [qz] at h ⊢; unfold zcb; simp only at h ⊢; omega
 ·refine ⟨by unfold VJ; decide, fun _ x y h => ?_⟩
  have e : zAA (Zm ⟨90, 0, 16⟩) = ⟨0, -1, 1, 1⟩ := by decide +kernel
  rw [e] at h; rw [qz] at h ⊢; unfold zcb; simp only at h ⊢; omega
theorem zax : xo zcb := by unfold zcb; refine ⟨?_, ?_, ?_, ?_, ?_, ?_, ?_, ?_⟩ <;> (simp only; omega)
theorem zcJ : (yk qO vP []).2 = 0 := (Q0 (s := qO) zax (by decide) vP [] (fun d h => (VH d h).1) (fun d h => (VH d h).2) jO (fun e h => by cases h)).1
theorem zaE : qc [] = [] := xy jO
theorem zeA : jR qO = vP := by
 have := ln2
 unfold y9 at this
 rw [ln1] at this
 exact this
theorem Kg : jk qO [] = yk qO vP [] := by
 unfold jk
 rw [if_pos ln1, zeA, zaE]
theorem zhr : (jk qO []).2 = 0 := by rw [Kg]; exact zcJ
theorem zhs : (xm (jk qO []).1 0 0).a > 0 := by
 rw [Kg, Q1 vk 0 0 vP [] (fun d h => (VH d h).1) jO qN.nil zcJ]
 decide +kernel
/- line, sanity of chapter 14's laws. -/
set_option maxHeartbeats 1000000 in
theorem ku (w : World) : Calls Tryz.prog 48 #[] w fun e w' => ∃ b, e = .returned (.agg (jE (.slice (some ⟨b, 0, none⟩) 3 3) qO)) ∧ xp j3 (.slice (some ⟨b, 0, none⟩) 3 3) qO.pts w' ∧ Below w.heap.size w w' := by
 have B := Below.refl w.heap.size w
 go_enter Tryz.func48, Tryz.ntmps48
 go_upto_region 0 with fail
 refine wp_region_lit ?_
 (refine zr (t := 30) rfl _ (qD _ _ rfl) (zY B ?_); clear B; intro b_r0 wn zb zd r0 za zf zk B; simp only [zo])
 refine wpList_nil ?_
 have hr0 := r0.lt
 go_upto_region 1 with fail
 refine wp_region_lit ?_
 (refine qv rfl (.agg #[.int .i64 0, .int .i64 0, .int .i64 255]) (by first | rfl | kernel_rfl | simp [go_sem, Act.eval]) ?_; simp only [zo])
 (refine qv rfl (.agg #[.int .i64 100, .int .i64 0, .int .i64 255]) (by first | rfl | kernel_rfl | simp [go_sem, Act.eval]) ?_; simp only [zo])
 (refine qv rfl (.agg #[.int .i64 100, .int .i64 30, .int .i64 255]) (by first | rfl | kernel_rfl | simp [go_sem, Act.eval]) ?_; simp only [zo])
 (refine Z6 (E := j3) (by first | rfl | simp [Region.wanted, yielded]) 3 _ rfl qO.pts rfl (by simp only [Act.eval, qI]; rfl) (by omega) (by omega) (zY B ?_); clear B; intro b_row wn zb zd row za zf zk B; (try have zh := r0.lt); (try replace r0 := r0.below (za.mono zb)); simp only [zo])
 (refine qv rfl (.agg #[.int .u8 200, .int .u8 0, .int .u8 0, .int .u8 255]) (by first | rfl | kernel_rfl | simp [go_sem, Act.eval]) ?_; simp only [zo])
 (refine qv rfl (.agg (jE (.slice (some ⟨b_row, 0, none⟩) 3 3) qO)) (by first | rfl | kernel_rfl | simp [go_sem, Act.eval]) ?_; simp only [zo])
 (refine zq (t := 30) rfl _ _ rfl _ rfl _ rfl r0 (by kernel_rfl) rfl (by simp [jE, Value.oneCell']) (qG B (by omega) ?_); clear r0 B; intro wn r0 ze zf zg B; replace row := row.of_eq (ze.block _ row.lt (by omega)); simp only [zo])
 refine wpList_nil ?_
 first | (refine bodyPost_ret (zz (t := 30) rfl _ _ (b_r0) rfl r0 Tryz.isAgg30 (by kernel_rfl)) rfl ?_) | (go_step; refine bodyPost_ret (zz (t := 30) rfl _ _ (b_r0) rfl r0 Tryz.isAgg30 (by kernel_rfl)) rfl ?_) | (go_step; go_step; refine bodyPost_ret (zz (t := 30) rfl _ _ (b_r0) rfl r0 Tryz.isAgg30 (by kernel_rfl)) rfl ?_) | (go_step; go_step; go_step; refine bodyPost_ret (zz (t := 30) rfl _ _ (b_r0) rfl r0 Tryz.isAgg30 (by kernel_rfl)) rfl ?_) | (go_step; go_step; go_step; go_step; refine bodyPost_ret (zz (t := 30) rfl _ _ (b_r0) rfl r0 Tryz.isAgg30 (by kernel_rfl)) rfl ?_) | (go_step; go_step; go_step; go_step; go_step; refine bodyPost_ret (zz (t := 30) rfl _ _ (b_r0) rfl r0 Tryz.isAgg30 (by kernel_rfl)) rfl ?_)
 exact ⟨_, rfl, row.rs, B⟩
/-- Split of the example. -/
theorem zcK (v : Value) (w : World) (rs : xp j3 v qO.pts w) : Calls Tryz.prog 26 #[.agg (jE v qO), .int .i64 1] w fun e w' => ∃ aa na ca ab nb cb, e = .returned (.tuple #[.agg (jE (.slice aa na ca) (spA qO 1)), .agg (jE (.slice ab nb cb) (spB qO 1)), .int .i64 0]) ∧ xp j3 (.slice ab nb cb) (spB qO 1).pts w' ∧ Below w.heap.size w w' :=
 (Vq v qO 1 w rs ln1 (by omega) (by decide)).mono fun e w' ⟨va, vb, h1, h2, h3, h4⟩ => by
  obtain ⟨aa, ca, rfl, _⟩ := h2.len; obtain ⟨ab, cb, rfl, _⟩ := h3.len; exact ⟨_, _, _, _, _, _, h1, h3.rs, h4⟩
def lnK : List TA := (jk qO []).1
theorem lnP : jk qO [] = (lnK, 0) := Prod.ext rfl zhr
def lnY : List UInt8 := ys qO
theorem zez : lnY.length ≤ 100000000 := by
 have e : ys qO = ji qO := by unfold ys; rw [ln1]; rfl
 show (ys qO).length ≤ _
 rw [e, QN]
 decide
theorem zeD (w : World) : Calls Tryz.prog 34 #[.string (yw lnY)] w fun e w' => ∃ a n c, e = .returned (.tuple #[.agg (jE (.slice a n c) qO), .int .i64 0]) ∧ xp j3 (.slice a n c) qO.pts w' ∧ Below w.heap.size w w' :=
 (Wb lnY qO 0 w zez ln9).mono fun e w' ⟨v, h1, h2, h3⟩ => by
  obtain ⟨a, c, rfl, _⟩ := h2.len; exact ⟨_, _, _, h1, h2, h3⟩
theorem zeC (w : World) : Calls Tryz.prog 34 #[.string { data := #[] }] w fun e w' => ∃ a n c, e = .returned (.tuple #[.agg (jE (.slice a n c) zSt), .int .i64 10]) ∧ Below w.heap.size w w' :=
 (Wb [] zSt 10 w (by simp) ln8).mono fun e w' ⟨v, h1, h2, h3⟩ => by
  obtain ⟨a, c, rfl, _⟩ := h2.len; exact ⟨_, _, _, h1, h3⟩
theorem Q3 : qO.pts.length ≤ 17592186044416 := by decide
theorem zeB : (spB qO 1).pts.length ≤ 17592186044416 := by decide
theorem zey : lnK.length ≤ maxLen := by
 have := wt (s := qO) vk (ls := []) qN.nil
 have := (j1.1 this.1).1
 unfold lnK maxLen
 omega
/-! ### Rectangles compared -/
theorem Y4 (d : Nat) (a b : Rc) (w : World) : (Op.equalIn (d + 2) 38 (.agg (jV a)) (.agg (jV b))).run Tryz.prog w = .ok (decide (a = b)) w := by
 obtain ⟨x, y, z, u⟩ := a
 obtain ⟨x', y', z', u'⟩ := b
 have h : (Op.equalIn (d + 2) 38 (.agg #[.int .i64 x, .int .i64 y, .int .i64 z, .int .i64 u]) (.agg #[.int .i64 x', .int .i64 y', .int .i64 z', .int .i64 u'])).run Tryz.prog w = .ok (x == x' && (y == y' && (z == z' && u == u'))) w := by
  by_cases h1 : x = x' <;> by_cases h2 : y = y' <;> by_cases h3 : z = z' <;> by_cases h4 : u = u' <;> simp [go_sem, h1, h2, h3, h4]
 refine h.trans ?_
 congr 1
 rw [Bool.eq_iff_iff]
 simp
theorem zel (a b : Rc) (w : World) : (binOp .eql 38 (.agg (jV a)) (.agg (jV b))).run Tryz.prog w = .ok (.bool (decide (a = b))) w := by
 have h := run_eql_struct (P := Tryz.prog) w 38 (jV a) (jV b)
 rw [h, Y4 9998 a b w]; rfl
theorem jT {o : Oper} {a : Act} {C : World → Prop} {K : Act → Prop} {p q : Operand} {t2 : TypeId} (h : o.op = .binOp .eql 38 p q t2) (x y : Rc) (hx : a.eval p = .agg (jV x)) (hy : a.eval q = .agg (jV y)) (b : Bool) (hb : decide (x = y) = b) (hk : K (a.put o.dst (.bool b))) : o.quiet Tryz.prog a C K :=
 ⟨_, fun w hw => by
  have hg : (eqGuard .eql 38 p q (.agg (jV x)) (.agg (jV y))).run Tryz.prog w = .ok () w := run_eqGuard_agg w _ 38 p q _ _ (by kernel_rfl); unfold Oper.quietAt execOp; simp only [h, hx, hy, hg, zel, hb, Sem.run_bind, Sem.run_pure, Result.andThen_ok]; exact ⟨rfl, rfl⟩, hk⟩
def zgv : jQ := ⟨Option Addr × Nat, ⟨(none, 0)⟩, fun p => .slice p.1 0 p.2, fun _ _ => True, fun _ _ _ _ h => h⟩
def J1 : jQ := ⟨Nat, ⟨0⟩, fun b => .agg (jE (.slice (some ⟨b, 0, none⟩) 3 3) qO), fun b w => xp j3 (.slice (some ⟨b, 0, none⟩) 3 3) qO.pts w, fun _ _ _ hb h => h.below hb⟩
set_option maxHeartbeats 4000000 in
theorem zdo (w : World) (lm : xU w) : Calls Tryz.prog 13 #[] w fun e w' => e = .returned (.bool true) ∧ Below w.heap.size w w' := by
 have B := Below.refl w.heap.size w
 have q30 : ((spB qO 1).pha == 30) = true := by rw [ln3]; rfl
 obtain ⟨⟨pr, pg, pb, pa⟩, hpx⟩ : ∃ p, xm lnK 0 0 = p := ⟨_, rfl⟩
 have hpa : pa > 0 := by have := zhs; rw [show (jk qO []).1 = lnK from rfl, hpx] at this; exact this
 have HPX := Lib.hid hpx
 clear hpx
 have qa : decide (pa > 0) = true := decide_eq_true hpa
 have qa' : decide (0 < pa) = true := decide_eq_true hpa
 have GETC : Hid (∀ v w, RS v lnK w → Calls Tryz.prog 31 #[.agg #[v], .int .i64 0, .int .i64 0] w fun e w' => e = .returned (.agg #[.int .u8 pr, .int .u8 pg, .int .u8 pb, .int .u8 pa]) ∧ Below w.heap.size w w') := Lib.hid fun v w h => by
  have := zbI v lnK 0 0 w h zey (us (by omega) (by omega)) (us (by omega) (by omega)); rw [HPX.out] at this; exact this
 go_enter Tryz.func13, Tryz.ntmps13
 go_upto_region 0 with fail
 refine wp_region_lit ?_
 refine zy 1 ?_
 refine wpList_nil ?_
 go_upto_region 1 with fail
 refine wp_region_lit ?_
 refine je (enters_of Tryz.func48 (by kernel_rfl) rfl) (c := ku _) (h := ?_)
 rintro e wn ⟨bl, rfl, rl, za⟩
 have zf := B.size
 have zg := za.size
 replace B := B.trans (za.mono B.size)
 (try replace lm := lm.below za)
 (try replace rl := rl.below za)
 refine ⟨_, rfl, ?_⟩
 simp only [zo]
 refine je (enters_of Tryz.func19 (by kernel_rfl) rfl) (c := QA _ qO vP _ rl Q3 ln2) (h := ?_)
 rintro e wn ⟨a1, c1, rfl, od, za⟩
 have zf := B.size
 have zg := za.size
 replace B := B.trans (za.mono B.size)
 (try replace lm := lm.below za)
 (try replace rl := rl.below za)
 have rd := od.rs
 clear od rl
 refine ⟨_, rfl, ?_⟩
 simp only [zo]
 refine zy 1 ?_
 refine wpList_nil ?_
 go_upto_region 2 with fail
 refine wp_region_lit ?_
 (refine qv rfl (.agg #[.int .i64 10, .int .i64 0, .int .i64 16]) (by first | rfl | kernel_rfl | simp [go_sem, Act.eval]) ?_; simp only [zo])
 (refine qv rfl (.agg #[.int .i64 50, .int .i64 0, .int .i64 16]) (by first | rfl | kernel_rfl | simp [go_sem, Act.eval]) ?_; simp only [zo])
 (refine qv rfl (.agg #[.int .i64 90, .int .i64 0, .int .i64 16]) (by first | rfl | kernel_rfl | simp [go_sem, Act.eval]) ?_; simp only [zo])
 (refine Z6 (E := vZ) (by first | rfl | simp [Region.wanted, yielded]) 3 _ rfl vP rfl (by simp only [Act.eval, qI]; rfl) (by omega) (by omega) (zY B ?_); clear B; intro b_wr wn zb zd wr za zf zk B; (try have zh := lm.lt); (try replace lm := lm.below (za.mono zb)); (try have zh := rd.lt); (try replace rd := rd.below (za.mono zb)); simp only [zo])
 refine zy 1 ?_
 refine wpList_nil ?_
 go_upto_region 3 with fail
 refine wp_region_lit ?_
 refine je (enters_of Tryz.func48 (by kernel_rfl) rfl) (c := ku _) (h := ?_)
 rintro e wn ⟨bl, rfl, rl, za⟩
 have zf := B.size
 have zg := za.size
 replace B := B.trans (za.mono B.size)
 (try replace lm := lm.below za)
 (try replace rd := rd.below za)
 (try replace wr := wr.below za)
 (try replace rl := rl.below za)
 refine ⟨_, rfl, ?_⟩
 simp only [zo]
 refine je (enters_of Tryz.func26 (by kernel_rfl) rfl) (c := zcK _ _ rl) (h := ?_)
 rintro e wn ⟨aa, na, ca, ab, nb, cb, rfl, rb, za⟩
 have zf := B.size
 have zg := za.size
 replace B := B.trans (za.mono B.size)
 (try replace lm := lm.below za)
 (try replace rd := rd.below za)
 (try replace wr := wr.below za)
 (try replace rl := rl.below za)
 clear rl
 refine ⟨_, rfl, ?_⟩
 simp only [zo]
 refine zy 4 ?_
 obtain ⟨wK, hK⟩ : ∃ z, z = wn := ⟨_, rfl⟩
 subst hK
 have BG := B
 have hwsK := BG.size
 have B := Below.refl wK.heap.size wK
 have H_lm := Lib.hid lm
 have H_rd := Lib.hid rd
 have H_wr := Lib.hid wr
 have H_rb := Lib.hid rb
 (refine zr (t := 30) rfl _ (qD _ _ rfl) (zY B ?_); clear B; intro b_r3 wn zb zd r3 za zf zk B; (try have zh := lm.lt); (try replace lm := lm.below (za.mono zb)); (try have zh := rd.lt); (try replace rd := rd.below (za.mono zb)); (try have zh := wr.lt); (try replace wr := wr.below (za.mono zb)); (try have zh := rb.lt); (try replace rb := rb.below (za.mono zb)); simp only [zo])
 (have _ := r3.lt; refine zr (t := 30) rfl _ (qD _ _ rfl) (zY B ?_); clear B; intro b_r4 wn zb zd r4 za zf zk B; (try have zh := lm.lt); (try replace lm := lm.below (za.mono zb)); (try have zh := rd.lt); (try replace rd := rd.below (za.mono zb)); (try have zh := wr.lt); (try replace wr := wr.below (za.mono zb)); (try have zh := rb.lt); (try replace rb := rb.below (za.mono zb)); (try have zh := r3.lt); (try replace r3 := r3.below (za.mono zb)); simp only [zo])
 (refine zq (t := 30) rfl _ _ rfl _ rfl _ rfl r3 (by kernel_rfl) rfl (by simp [jE, Value.oneCell']) (qG B (by omega) ?_); clear r3 B; intro wn r3 ze zf zg B; (try replace r4 := r4.of_eq (ze.block _ r4.lt (by omega))); simp only [zo])
 (refine zq (t := 30) rfl _ _ rfl _ rfl _ rfl r4 (by kernel_rfl) rfl (by simp [jE, Value.oneCell']) (qG B (by omega) ?_); clear r4 B; intro wn r4 ze zf zg B; (try replace r3 := r3.of_eq (ze.block _ r3.lt (by omega))); simp only [zo])
 refine zy 1 ?_
 refine wpList_nil ?_
 clear lm
 clear rd
 clear wr
 clear rb
 have lm := by first | exact H_lm.out.below B | exact H_lm.out.of_eq (B.block _ H_lm.out.lt)
 have rd := by first | exact H_rd.out.below B | exact H_rd.out.of_eq (B.block _ H_rd.out.lt)
 have wr := by first | exact H_wr.out.below B | exact H_wr.out.of_eq (B.block _ H_wr.out.lt)
 have rb := by first | exact H_rb.out.below B | exact H_rb.out.of_eq (B.block _ H_rb.out.lt)
 clear H_lm
 clear H_rd
 clear H_wr
 clear H_rb
 have B0 := BG.trans (B.mono hwsK)
 clear B BG hwsK
 have B := B0
 clear B0
 clear r3
 go_upto_region 4 with fail
 refine wp_region_lit ?_
 (refine qv rfl (.agg #[.slice none 0 0]) (by first | rfl | kernel_rfl | simp [go_sem, Act.eval]) ?_; simp only [zo])
 refine je (enters_of Tryz.func48 (by kernel_rfl) rfl) (c := ku _) (h := ?_)
 rintro e wn ⟨bl, rfl, rl, za⟩
 have zf := B.size
 have zg := za.size
 replace B := B.trans (za.mono B.size)
 (try replace lm := lm.below za)
 (try replace rd := rd.below za)
 (try replace wr := wr.below za)
 (try replace rb := rb.below za)
 (try replace r4 := r4.below za)
 (try replace rl := rl.below za)
 refine ⟨_, rfl, ?_⟩
 simp only [zo]
 refine je (enters_of Tryz.func30 (by kernel_rfl) rfl) (c := YE _ _ qO [] lnK 0 _ lm (RS.nil _) qN.nil (Nat.zero_le _) rl Q3 vk lnP) (h := ?_)
 rintro e wn ⟨ap, cp, rfl, rk, za⟩
 have zf := B.size
 have zg := za.size
 replace B := B.trans (za.mono B.size)
 (try replace lm := lm.below za)
 (try replace rd := rd.below za)
 (try replace wr := wr.below za)
 (try replace rb := rb.below za)
 (try replace r4 := r4.below za)
 (try replace rl := rl.below za)
 clear rl
 refine ⟨_, rfl, ?_⟩
 simp only [zo]
 refine zy 3 ?_
 obtain ⟨wK, hK⟩ : ∃ z, z = wn := ⟨_, rfl⟩
 subst hK
 have BG := B
 have hwsK := BG.size
 have B := Below.refl wK.heap.size wK
 have H_lm := Lib.hid lm
 have H_rd := Lib.hid rd
 have H_wr := Lib.hid wr
 have H_rb := Lib.hid rb
 have H_r4 := Lib.hid r4
 have H_rk := Lib.hid rk
 (refine zr (t := 64) rfl _ (qA _ _ rfl) (zY B ?_); clear B; intro b_r6 wn zb zd r6 za zf zk B; (try have zh := lm.lt); (try replace lm := lm.below (za.mono zb)); (try have zh := rd.lt); (try replace rd := rd.below (za.mono zb)); (try have zh := wr.lt); (try replace wr := wr.below (za.mono zb)); (try have zh := rb.lt); (try replace rb := rb.below (za.mono zb)); (try have zh := r4.lt); (try replace r4 := r4.below (za.mono zb)); (try have zh := rk.lt); (try replace rk := rk.below (za.mono zb)); simp only [zo])
 (refine zq (t := 64) rfl _ _ rfl _ rfl _ rfl r6 (by kernel_rfl) rfl (by simp [Value.oneCell']) (qG B (by omega) ?_); clear r6 B; intro wn r6 ze zf zg B; simp only [zo])
 refine zy 1 ?_
 refine wpList_nil ?_
 clear lm
 clear rd
 clear wr
 clear rb
 clear r4
 clear rk
 have lm := by first | exact H_lm.out.below B | exact H_lm.out.of_eq (B.block _ H_lm.out.lt)
 have rd := by first | exact H_rd.out.below B | exact H_rd.out.of_eq (B.block _ H_rd.out.lt)
 have wr := by first | exact H_wr.out.below B | exact H_wr.out.of_eq (B.block _ H_wr.out.lt)
 have rb := by first | exact H_rb.out.below B | exact H_rb.out.of_eq (B.block _ H_rb.out.lt)
 have r4 := by first | exact H_r4.out.below B | exact H_r4.out.of_eq (B.block _ H_r4.out.lt)
 have rk := by first | exact H_rk.out.below B | exact H_rk.out.of_eq (B.block _ H_rk.out.lt)
 clear H_lm
 clear H_rd
 clear H_wr
 clear H_rb
 clear H_r4
 clear H_rk
 have B0 := BG.trans (B.mono hwsK)
 clear B BG hwsK
 have B := B0
 clear B0
 go_upto_region 5 with fail
 refine wp_region_lit ?_
 refine je (enters_of Tryz.func48 (by kernel_rfl) rfl) (c := ku _) (h := ?_)
 rintro e wn ⟨bl, rfl, rl, za⟩
 have zf := B.size
 have zg := za.size
 replace B := B.trans (za.mono B.size)
 (try replace lm := lm.below za)
 (try replace rd := rd.below za)
 (try replace wr := wr.below za)
 (try replace rb := rb.below za)
 (try replace r4 := r4.below za)
 (try replace rk := rk.below za)
 (try replace r6 := r6.below za)
 (try replace rl := rl.below za)
 refine ⟨_, rfl, ?_⟩
 simp only [zo]
 refine je (enters_of Tryz.func33 (by kernel_rfl) rfl) (c := Qy _ qO lnY _ rl Q3 vk rfl) (h := ?_)
 rintro e wn ⟨rfl, za⟩
 have zf := B.size
 have zg := za.size
 replace B := B.trans (za.mono B.size)
 (try replace lm := lm.below za)
 (try replace rd := rd.below za)
 (try replace wr := wr.below za)
 (try replace rb := rb.below za)
 (try replace r4 := r4.below za)
 (try replace rk := rk.below za)
 (try replace r6 := r6.below za)
 (try replace rl := rl.below za)
 clear rl
 refine ⟨_, rfl, ?_⟩
 simp only [zo]
 refine je (enters_of Tryz.func34 (by kernel_rfl) rfl) (c := zeD _) (h := ?_)
 rintro e wn ⟨a8, n8, c8, rfl, r8s, za⟩
 have zf := B.size
 have zg := za.size
 replace B := B.trans (za.mono B.size)
 (try replace lm := lm.below za)
 (try replace rd := rd.below za)
 (try replace wr := wr.below za)
 (try replace rb := rb.below za)
 (try replace r4 := r4.below za)
 (try replace rk := rk.below za)
 (try replace r6 := r6.below za)
 refine ⟨_, rfl, ?_⟩
 simp only [zo]
 refine zy 3 ?_
 obtain ⟨wK, hK⟩ : ∃ z, z = wn := ⟨_, rfl⟩
 subst hK
 have BG := B
 have hwsK := BG.size
 have B := Below.refl wK.heap.size wK
 have H_lm := Lib.hid lm
 have H_rd := Lib.hid rd
 have H_wr := Lib.hid wr
 have H_rb := Lib.hid rb
 have H_r4 := Lib.hid r4
 have H_rk := Lib.hid rk
 have H_r6 := Lib.hid r6
 have H_r8s := Lib.hid r8s
 (refine zr (t := 30) rfl _ (qD _ _ rfl) (zY B ?_); clear B; intro b_r8 wn zb zd r8 za zf zk B; (try have zh := lm.lt); (try replace lm := lm.below (za.mono zb)); (try have zh := rd.lt); (try replace rd := rd.below (za.mono zb)); (try have zh := wr.lt); (try replace wr := wr.below (za.mono zb)); (try have zh := rb.lt); (try replace rb := rb.below (za.mono zb)); (try have zh := r4.lt); (try replace r4 := r4.below (za.mono zb)); (try have zh := rk.lt); (try replace rk := rk.below (za.mono zb)); (try have zh := r6.lt); (try replace r6 := r6.below (za.mono zb)); (try have zh := r8s.lt); (try replace r8s := r8s.below (za.mono zb)); simp only [zo])
 (refine zq (t := 30) rfl _ _ rfl _ rfl _ rfl r8 (by kernel_rfl) rfl (by simp [jE, Value.oneCell']) (qG B (by omega) ?_); clear r8 B; intro wn r8 ze zf zg B; simp only [zo])
 refine zy 1 ?_
 refine wpList_nil ?_
 clear lm
 clear rd
 clear wr
 clear rb
 clear r4
 clear rk
 clear r6
 clear r8s
 have lm := by first | exact H_lm.out.below B | exact H_lm.out.of_eq (B.block _ H_lm.out.lt)
 have rd := by first | exact H_rd.out.below B | exact H_rd.out.of_eq (B.block _ H_rd.out.lt)
 have wr := by first | exact H_wr.out.below B | exact H_wr.out.of_eq (B.block _ H_wr.out.lt)
 have rb := by first | exact H_rb.out.below B | exact H_rb.out.of_eq (B.block _ H_rb.out.lt)
 have r4 := by first | exact H_r4.out.below B | exact H_r4.out.of_eq (B.block _ H_r4.out.lt)
 have rk := by first | exact H_rk.out.below B | exact H_rk.out.of_eq (B.block _ H_rk.out.lt)
 have r6 := by first | exact H_r6.out.below B | exact H_r6.out.of_eq (B.block _ H_r6.out.lt)
 have r8s := by first | exact H_r8s.out.below B | exact H_r8s.out.of_eq (B.block _ H_r8s.out.lt)
 clear H_lm
 clear H_rd
 clear H_wr
 clear H_rb
 clear H_r4
 clear H_rk
 clear H_r6
 clear H_r8s
 have B0 := BG.trans (B.mono hwsK)
 clear B BG hwsK
 have B := B0
 clear B0
 go_upto_region 6 with fail
 refine wp_region_lit ?_
 refine je (enters_of Tryz.func34 (by kernel_rfl) rfl) (c := zeC _) (h := ?_)
 rintro e wn ⟨a10, n10, c10, rfl, za⟩
 have zf := B.size
 have zg := za.size
 replace B := B.trans (za.mono B.size)
 (try replace lm := lm.below za)
 (try replace rd := rd.below za)
 (try replace wr := wr.below za)
 (try replace rb := rb.below za)
 (try replace r4 := r4.below za)
 (try replace rk := rk.below za)
 (try replace r6 := r6.below za)
 (try replace r8s := r8s.below za)
 (try replace r8 := r8.below za)
 refine ⟨_, rfl, ?_⟩
 simp only [zo]
 refine zy 3 ?_
 obtain ⟨wK, hK⟩ : ∃ z, z = wn := ⟨_, rfl⟩
 subst hK
 have BG := B
 have hwsK := BG.size
 have B := Below.refl wK.heap.size wK
 have H_lm := Lib.hid lm
 have H_rd := Lib.hid rd
 have H_wr := Lib.hid wr
 have H_rb := Lib.hid rb
 have H_r4 := Lib.hid r4
 have H_rk := Lib.hid rk
 have H_r6 := Lib.hid r6
 have H_r8s := Lib.hid r8s
 have H_r8 := Lib.hid r8
 (refine zr (t := 30) rfl _ (qD _ _ rfl) (zY B ?_); clear B; intro b_r10 wn zb zd r10 za zf zk B; (try have zh := lm.lt); (try replace lm := lm.below (za.mono zb)); (try have zh := rd.lt); (try replace rd := rd.below (za.mono zb)); (try have zh := wr.lt); (try replace wr := wr.below (za.mono zb)); (try have zh := rb.lt); (try replace rb := rb.below (za.mono zb)); (try have zh := r4.lt); (try replace r4 := r4.below (za.mono zb)); (try have zh := rk.lt); (try replace rk := rk.below (za.mono zb)); (try have zh := r6.lt); (try replace r6 := r6.below (za.mono zb)); (try have zh := r8s.lt); (try replace r8s := r8s.below (za.mono zb)); (try have zh := r8.lt); (try replace r8 := r8.below (za.mono zb)); simp only [zo])
 (refine zq (t := 30) rfl _ _ rfl _ rfl _ rfl r10 (by kernel_rfl) rfl (by simp [jE, Value.oneCell']) (qG B (by omega) ?_); clear r10 B; intro wn r10 ze zf zg B; simp only [zo])
 refine zy 1 ?_
 refine wpList_nil ?_
 clear lm
 clear rd
 clear wr
 clear rb
 clear r4
 clear rk
 clear r6
 clear r8s
 clear r8
 have lm := by first | exact H_lm.out.below B | exact H_lm.out.of_eq (B.block _ H_lm.out.lt)
 have rd := by first | exact H_rd.out.below B | exact H_rd.out.of_eq (B.block _ H_rd.out.lt)
 have wr := by first | exact H_wr.out.below B | exact H_wr.out.of_eq (B.block _ H_wr.out.lt)
 have rb := by first | exact H_rb.out.below B | exact H_rb.out.of_eq (B.block _ H_rb.out.lt)
 have r4 := by first | exact H_r4.out.below B | exact H_r4.out.of_eq (B.block _ H_r4.out.lt)
 have rk := by first | exact H_rk.out.below B | exact H_rk.out.of_eq (B.block _ H_rk.out.lt)
 have r6 := by first | exact H_r6.out.below B | exact H_r6.out.of_eq (B.block _ H_r6.out.lt)
 have r8s := by first | exact H_r8s.out.below B | exact H_r8s.out.of_eq (B.block _ H_r8s.out.lt)
 have r8 := by first | exact H_r8.out.below B | exact H_r8.out.of_eq (B.block _ H_r8.out.lt)
 clear H_lm
 clear H_rd
 clear H_wr
 clear H_rb
 clear H_r4
 clear H_rk
 clear H_r6
 clear H_r8s
 clear H_r8
 have B0 := BG.trans (B.mono hwsK)
 clear B BG hwsK
 have B := B0
 clear B0
 clear r10
 go_upto_region 7 with fail
 try have lx_lm := lm.lt
 try have lx_rd := rd.lt
 try have lx_wr := wr.lt
 try have lx_rb := rb.lt
 try have lx_r4 := r4.lt
 try have lx_rk := rk.lt
 try have lx_r6 := r6.lt
 try have lx_r8s := r8s.lt
 try have lx_r8 := r8.lt
 refine zJ 62 [(2, zN ?v1_2), (14, zgv), (15, zN ?v1_15), (20, zN ?v1_20), (29, zN ?v1_29), (39, J1), (40, zN ?v1_40), (47, J1), (48, zN ?v1_48), (52, zN ?v1_52), (56, J1), (57, zN ?v1_57)] (by kernel_rfl) (by kernel_rfl) (by kernel_rfl) ?_
 rotate_left 8
 simp only [jZ, Nat.reduceAdd]
 refine ub 2 ?_
 repeat (first | go_big_quiet_skip | (go_big_quiet_want; first | ((first | refine jT rfl ⟨-1, -1, 7, 2⟩ ⟨-1, -1, 7, 2⟩ rfl rfl true (by decide) ?_ | refine qB ?_ | refine qC ?_); simp only [zo]; go_big_quiet_on) | (go_big_quiet_op; go_big_quiet_on)))
 refine wpQuiet_nil ?_
 refine zD (by rfl) (by first | rfl | simp [Region.wanted, yielded]) ?_ ?_
 ·intro wn za hE Kx hKx
  have zf := B.size; have zg := za.size; replace B := B.trans (za.mono B.size)
  (try replace lm := lm.below za)
  (try replace rd := rd.below za)
  (try replace wr := wr.below za)
  (try replace rb := rb.below za)
  (try replace r4 := r4.below za)
  (try replace rk := rk.below za)
  (try replace r6 := r6.below za)
  (try replace r8s := r8s.below za)
  (try replace r8 := r8.below za)
  refine zP rfl (enters_of Tryz.func18 (by kernel_rfl) rfl) (by simp only [Act.eval, qI]; rfl) ?_
  refine (Vs _ _ vP vP true wn rd wr.rs (by decide) (by decide) (by decide)).mono ?_; rintro e wm ⟨rfl, zl⟩; refine ⟨_, rfl, ?_⟩; have hz := hKx () wm trivial zl
  dsimp only [zN] at hz
  exact hz
 rintro ⟨⟩
 dsimp only [zN]
 simp only [zo]
 refine ub 11 ?_
 repeat (first | go_big_quiet_skip | (go_big_quiet_want; first | ((first | refine jT rfl ⟨-1, -1, 7, 2⟩ ⟨-1, -1, 7, 2⟩ rfl rfl true (by decide) ?_ | refine qB ?_ | refine qC ?_); simp only [zo]; go_big_quiet_on) | (go_big_quiet_op; go_big_quiet_on)))
 refine wpQuiet_nil ?_
 refine zD (by rfl) ?hw1_14 ?_ ?_
 case hw1_14 => kernel_rfl
 ·intro wn za hE Kx hKx
  have zf := B.size; have zg := za.size; replace B := B.trans (za.mono B.size)
  (try replace lm := lm.below za)
  (try replace rb := rb.below za)
  (try replace r4 := r4.below za)
  (try replace rk := rk.below za)
  (try replace r6 := r6.below za)
  (try replace r8s := r8s.below za)
  (try replace r8 := r8.below za)
  refine zP rfl (enters_of Tryz.func19 (by kernel_rfl) rfl) (by simp only [Act.eval, qI]; rfl) ?_
  refine (QA _ (spB qO 1) [] wn rb zeB ln4).mono ?_; rintro e wm ⟨a', c', rfl, _, zl⟩; exact ⟨_, rfl, hKx (a', c') wm trivial zl⟩
 rintro ⟨a54, c54⟩
 dsimp only [zN, zgv]
 simp only [zo]
 refine zD (by rfl) ?hw1_15 ?_ ?_
 case hw1_15 => kernel_rfl
 ·intro wn za hE Kx hKx
  have zf := B.size; have zg := za.size; replace B := B.trans (za.mono B.size)
  (try replace lm := lm.below za)
  (try replace r4 := r4.below za)
  (try replace rk := rk.below za)
  (try replace r6 := r6.below za)
  (try replace r8s := r8s.below za)
  (try replace r8 := r8.below za)
  refine Zl rfl Tryz.underlying35 rfl ?_; exact hKx () _ trivial (Below.refl _ _)
 rintro ⟨⟩
 dsimp only [zN]
 simp only [zo]
 refine ub 4 ?_
 repeat (first | go_big_quiet_skip | (go_big_quiet_want; first | ((first | refine jT rfl ⟨-1, -1, 7, 2⟩ ⟨-1, -1, 7, 2⟩ rfl rfl true (by decide) ?_ | refine qB ?_ | refine qC ?_); simp only [zo]; go_big_quiet_on) | (go_big_quiet_op; go_big_quiet_on)))
 refine wpQuiet_nil ?_
 refine zD (by rfl) ?hw1_20 ?_ ?_
 case hw1_20 => kernel_rfl
 ·intro wn za hE Kx hKx
  have zf := B.size; have zg := za.size; replace B := B.trans (za.mono B.size)
  (try replace lm := lm.below za)
  (try replace r4 := r4.below za)
  (try replace rk := rk.below za)
  (try replace r6 := r6.below za)
  (try replace r8s := r8s.below za)
  (try replace r8 := r8.below za)
  refine zP rfl (enters_of Tryz.func24 (by kernel_rfl) rfl) (by simp only [Act.eval, qI]; rfl) ?_
  refine (V7 ⟨8, 8, 8⟩ 0 0 191 wn (by simp only; omega) (by simp only; omega) (by simp only; omega) ln5).mono ?_
  rintro e wm ⟨rfl, zl⟩; refine ⟨_, rfl, ?_⟩; have hz := hKx () wm trivial zl
  dsimp only [zN] at hz
  exact hz
 rintro ⟨⟩
 dsimp only [zN]
 simp only [zo]
 refine ub 8 ?_
 repeat (first | go_big_quiet_skip | (go_big_quiet_want; first | ((first | refine jT rfl ⟨-1, -1, 7, 2⟩ ⟨-1, -1, 7, 2⟩ rfl rfl true (by decide) ?_ | refine qB ?_ | refine qC ?_); simp only [zo]; go_big_quiet_on) | (go_big_quiet_op; go_big_quiet_on)))
 refine wpQuiet_nil ?_
 refine zD (by rfl) ?hw1_29 ?_ ?_
 case hw1_29 => kernel_rfl
 ·intro wn za hE Kx hKx
  have zf := B.size; have zg := za.size; replace B := B.trans (za.mono B.size)
  (try replace lm := lm.below za)
  (try replace r4 := r4.below za)
  (try replace rk := rk.below za)
  (try replace r8s := r8s.below za)
  (try replace r8 := r8.below za)
  refine zP rfl (enters_of Tryz.func31 (by kernel_rfl) rfl) (by simp only [Act.eval, qI]; rfl) ?_
  refine (GETC.out _ wn rk).mono ?_; rintro e wm ⟨rfl, zl⟩; refine ⟨_, rfl, ?_⟩; have hz := hKx () wm trivial zl
  dsimp only [zN] at hz
  exact hz
 rintro ⟨⟩
 dsimp only [zN]
 simp only [zo]
 refine ub 9 ?_
 repeat (first | go_big_quiet_skip | (go_big_quiet_want; first | ((first | refine jT rfl ⟨-1, -1, 7, 2⟩ ⟨-1, -1, 7, 2⟩ rfl rfl true (by decide) ?_ | refine qB ?_ | refine qC ?_); simp only [zo]; go_big_quiet_on) | (go_big_quiet_op; go_big_quiet_on)))
 refine wpQuiet_nil ?_
 refine zD (by rfl) ?hw1_39 ?_ ?_
 case hw1_39 => kernel_rfl
 ·intro wn za hE Kx hKx
  have zf := B.size; have zg := za.size; replace B := B.trans (za.mono B.size)
  (try replace lm := lm.below za)
  (try replace r8s := r8s.below za)
  refine zP rfl (enters_of Tryz.func48 (by kernel_rfl) rfl) (by simp only [Act.eval, qI]; rfl) ?_
  refine (ku wn).mono ?_; rintro e wm ⟨b', rfl, hr, zl⟩; exact ⟨_, rfl, hKx b' wm hr zl⟩
 rintro bl79
 dsimp only [zN, J1]
 simp only [zo]
 refine zD (by rfl) ?hw1_40 ?_ ?_
 case hw1_40 => kernel_rfl
 ·intro wn za hE Kx hKx
  have zf := B.size; have zg := za.size; replace B := B.trans (za.mono B.size)
  (try replace lm := lm.below za)
  (try replace r8s := r8s.below za)
  have n79 := hE 39 (by kernel_rfl); change xp _ _ _ _ at n79
  refine zP rfl (enters_of Tryz.func28 (by kernel_rfl) rfl) (by simp only [Act.eval, qI]; rfl) ?_
  refine (zb5 _ _ qO qO true wn r8s n79 (by decide) (by decide) (by decide)).mono ?_; rintro e wm ⟨rfl, zl⟩; refine ⟨_, rfl, ?_⟩; have hz := hKx () wm trivial zl
  dsimp only [zN] at hz
  exact hz
 rintro ⟨⟩
 dsimp only [zN]
 simp only [zo]
 refine ub 6 ?_
 repeat (first | go_big_quiet_skip | (go_big_quiet_want; first | ((first | refine jT rfl ⟨-1, -1, 7, 2⟩ ⟨-1, -1, 7, 2⟩ rfl rfl true (by decide) ?_ | refine qB ?_ | refine qC ?_); simp only [zo]; go_big_quiet_on) | (go_big_quiet_op; go_big_quiet_on)))
 refine wpQuiet_nil ?_
 refine zD (by rfl) ?hw1_47 ?_ ?_
 case hw1_47 => kernel_rfl
 ·intro wn za hE Kx hKx
  have zf := B.size; have zg := za.size; replace B := B.trans (za.mono B.size)
  (try replace lm := lm.below za)
  refine zP rfl (enters_of Tryz.func48 (by kernel_rfl) rfl) (by simp only [Act.eval, qI]; rfl) ?_
  refine (ku wn).mono ?_; rintro e wm ⟨b', rfl, hr, zl⟩; exact ⟨_, rfl, hKx b' wm hr zl⟩
 rintro bl87
 dsimp only [zN, J1]
 simp only [zo]
 refine zD (by rfl) ?hw1_48 ?_ ?_
 case hw1_48 => kernel_rfl
 ·intro wn za hE Kx hKx
  have zf := B.size; have zg := za.size; replace B := B.trans (za.mono B.size)
  (try replace lm := lm.below za)
  have n87 := hE 47 (by kernel_rfl); change xp _ _ _ _ at n87
  refine zP rfl (enters_of Tryz.func16 (by kernel_rfl) rfl) (by simp only [Act.eval, qI]; rfl) ?_
  refine (xM _ qO true wn n87 Q3 ln1).mono ?_; rintro e wm ⟨rfl, zl⟩; refine ⟨_, rfl, ?_⟩; have hz := hKx () wm trivial zl
  dsimp only [zN] at hz
  exact hz
 rintro ⟨⟩
 dsimp only [zN]
 simp only [zo]
 refine ub 3 ?_
 repeat (first | go_big_quiet_skip | (go_big_quiet_want; first | ((first | refine jT rfl ⟨-1, -1, 7, 2⟩ ⟨-1, -1, 7, 2⟩ rfl rfl true (by decide) ?_ | refine qB ?_ | refine qC ?_); simp only [zo]; go_big_quiet_on) | (go_big_quiet_op; go_big_quiet_on)))
 refine wpQuiet_nil ?_
 refine zD (by rfl) ?hw1_52 ?_ ?_
 case hw1_52 => kernel_rfl
 ·intro wn za hE Kx hKx
  have zf := B.size; have zg := za.size; replace B := B.trans (za.mono B.size)
  (try replace lm := lm.below za)
  refine zP rfl (enters_of Tryz.func16 (by kernel_rfl) rfl) (by simp only [Act.eval, qI]; rfl) ?_
  refine (xM (.slice none 0 0) zSt false wn (jb.nil (E := j3) 0 wn).rs (by decide) ln7).mono ?_; rintro e wm ⟨rfl, zl⟩; refine ⟨_, rfl, ?_⟩; have hz := hKx () wm trivial zl
  dsimp only [zN] at hz
  exact hz
 rintro ⟨⟩
 dsimp only [zN]
 simp only [zo]
 refine ub 3 ?_
 repeat (first | go_big_quiet_skip | (go_big_quiet_want; first | ((first | refine jT rfl ⟨-1, -1, 7, 2⟩ ⟨-1, -1, 7, 2⟩ rfl rfl true (by decide) ?_ | refine qB ?_ | refine qC ?_); simp only [zo]; go_big_quiet_on) | (go_big_quiet_op; go_big_quiet_on)))
 refine wpQuiet_nil ?_
 refine zD (by rfl) ?hw1_56 ?_ ?_
 case hw1_56 => kernel_rfl
 ·intro wn za hE Kx hKx
  have zf := B.size; have zg := za.size; replace B := B.trans (za.mono B.size)
  (try replace lm := lm.below za)
  refine zP rfl (enters_of Tryz.func48 (by kernel_rfl) rfl) (by simp only [Act.eval, qI]; rfl) ?_
  refine (ku wn).mono ?_; rintro e wm ⟨b', rfl, hr, zl⟩; exact ⟨_, rfl, hKx b' wm hr zl⟩
 rintro bl96
 dsimp only [zN, J1]
 simp only [zo]
 refine zD (by rfl) ?hw1_57 ?_ ?_
 case hw1_57 => kernel_rfl
 ·intro wn za hE Kx hKx
  have zf := B.size; have zg := za.size; replace B := B.trans (za.mono B.size)
  (try replace lm := lm.below za)
  have n96 := hE 56 (by kernel_rfl); change xp _ _ _ _ at n96
  refine zP rfl (enters_of Tryz.func21 (by kernel_rfl) rfl) (by simp only [Act.eval, qI]; rfl) ?_
  refine (Yv _ qO ⟨-1, -1, 7, 2⟩ wn lm n96 Q3 ln6).mono ?_; rintro e wm ⟨rfl, zl⟩; refine ⟨_, rfl, ?_⟩; have hz := hKx () wm trivial zl
  dsimp only [zN] at hz
  exact hz
 rintro ⟨⟩
 dsimp only [zN]
 simp only [zo]
 refine ub 4 ?_
 repeat (first | go_big_quiet_skip | (go_big_quiet_want; first | ((first | refine jT rfl ⟨-1, -1, 7, 2⟩ ⟨-1, -1, 7, 2⟩ rfl rfl true (by decide) ?_ | refine qB ?_ | refine qC ?_); simp only [zo]; go_big_quiet_on) | (go_big_quiet_op; go_big_quiet_on)))
 refine wpQuiet_nil ?_
 refine qi ?_
 intro wn za hE
 have zf := B.size
 have zg := za.size
 replace B := B.trans (za.mono B.size)
 have n79 := hE 39
 change xp _ _ _ _ at n79
 have n87 := hE 47
 change xp _ _ _ _ at n87
 have n96 := hE 56
 change xp _ _ _ _ at n96
 clear hE
 try simp only [List.drop_succ_cons, List.drop_zero]
 refine zL.normal ?_
 go_wp2
 go_ret
 exact ⟨rfl, B⟩
end Go.Proofs.YtepelndbbhdofaaGreatDoor
/- How this seat's arguments are opened: slices of integers, rectangles, generated rasters. -/
namespace Go.Proofs.YtepelndbbhdofaaGreatDoor
open Go.ChangeShapes Go.WideShapes Go.ChangeAt Go.RowKit Pl
set_option linter.unusedVariables false
set_option linter.unusedSimpArgs false
set_option maxRecDepth 20000
theorem zdh : reachBytes ≤ 140737488351232 := by decide
section
variable {H : Type} {enc : TypeId × Value → H} {w : World} {base : Nat} {spare : Nat → Bool} {held : Bool}
theorem zar (b off n : Nat) : (Addr.add ⟨b, off, none⟩ n) = ⟨b, off + n, none⟩ := by
 unfold Addr.add; split
 ·rename_i h; subst h; rfl
 ·rfl
theorem zbi {fuel : Nat} {cs : List Value} {x : DataW H × List MemPlace} (h : DataW.trod enc Tryz.prog w base spare held fuel 22 cs = some x) (hw : ∀ n ∈ x.1.weights Tryz.prog 22, n ≤ reachBytes) :
  ∃ v L, cs = [v] ∧ xp inE v L w ∧ L.length ≤ 17592186044416 := by
 have hC : Tryz.prog.cellsOf 3 = 1 := by kernel_rfl
 have hB : Tryz.prog.bytesOf 3 = 8 := by kernel_rfl
 rcases open_ints Tryz.underlying22 Tryz.underlying3 hC h with ⟨rfl, rfl⟩ | ⟨a, len, cap, zs, rfl, _, hl, hcap, hz, rfl, hcell, _⟩
 ·exact ⟨_, [], rfl, xp.nil w, by simp⟩
 ·have hzl : len ≤ zs.length := by rw [hz]; split <;> omega
  have htl : (zs.take len).length = len := by rw [List.length_take, Nat.min_eq_left hzl]
  refine ⟨_, zs.take len, rfl, ?_, ?_⟩
  ·by_cases h0 : len = 0
   ·subst h0; exact .inr (.inr ⟨a, cap, rfl, by simp⟩)
   ·obtain ⟨b, off, spot⟩ := a
    have c0 := hcell 0 (by omega); have hspot : spot = none := by simpa [Addr.add] using World.cell?_spot c0
    subst hspot; simp only [zar] at hcell c0; refine .inr (.inl ⟨b, off, cap, by rw [htl], by rw [htl]; exact hl, fun _ => ⟨World.block_lt_of_cell? w _ c0, fun i x hi j hj => ?_⟩⟩)
    obtain rfl : j = 0 := by omega
    have hil : i < len := by rw [← htl]; exact (List.getElem?_eq_some_iff.1 hi).1
    rw [List.getElem?_take_of_lt hil] at hi; rw [Nat.mul_one, Nat.add_zero, hcell i (by omega), List.getD_eq_getElem?_getD, hi]
    rfl
  ·rw [htl]
   have := hw ((len + (zs.length - len)) * 8) (by simp [DataW.weights, Tryz.underlying22, hB, lits, Nat.min_eq_left hzl]); have := zdh; omega
theorem Q9 {r : Reach} {b0 : Nat} {v : Value} {d : DataW H} {p : List MemPlace} (hv : Value.okWide Tryz.prog w r b0 22 v)
  (h : DataW.Trod enc Tryz.prog w base spare held 22 v d p) (hw : ∀ n ∈ d.weights Tryz.prog 22, n ≤ reachBytes) : ∃ L, xp inE v L w ∧ L.length ≤ 17592186044416 := by
 obtain ⟨a0, len, cap, rfl⟩ := okWide_slice Tryz.underlying22 hv
 obtain ⟨fuel, hf⟩ := h
 obtain ⟨v', L, e, h1, h2⟩ := zbi hf hw
 simp [Value.cells] at e
 subst e
 exact ⟨L, h1, h2⟩
end
end Go.Proofs.YtepelndbbhdofaaGreatDoor
/- The door of chapter 14's laws: what the one listed variable gives the walks. -/
namespace Go.Proofs.YtepelndbbhdofaaGreatDoor
open Go.ChangeShapes Go.WideShapes Go.ChangeAt Go.RowKit Pl
set_option linter.unusedVariables false
set_option linter.unusedSimpArgs false
def Kc : List (String × DataW Unit) := [("gouache/stroke.limits", Rows.laid_gouache_stroke_limits)]
theorem zcm (os : Os) (args : Array Value) : laidMetH Tryz.prog Kc ((World.doorLaid Tryz.prog 400 os).forCall (fun _ _ => 0) ⟨#[], args, []⟩).memory :=
 laidMetH_of_parts3 (fuel := 8) (laidMet_of_run' 8 (by kernel_rfl) (by kernel_rfl)) (by kernel_rfl) (by kernel_rfl)
theorem WA : Tryz.prog.globalNamed "gouache/stroke.limits" = some 0 := by kernel_rfl
/-- WHAT THE CONDITION GIVES THE WALKS. -/
theorem Kf {W : World} (h : laidMetH Tryz.prog Kc W) : xU W := by
 rw [MakeChecks.laidMetH_plain _ _ _ (by kernel_rfl)] at h
 obtain ⟨ps, ⟨g, t, cs, fuel, p, q, hg, ht, hv, hd, _, _⟩, _⟩ := h
 obtain rfl := Option.some.inj (WA.symm.trans hg)
 have hty : (Tryz.prog.globals[0]?).map (·.type) = some 38 := by kernel_rfl
 obtain rfl := Option.some.inj (hty.symm.trans ht)
 have hC : Tryz.prog.cellsOf 3 = 1 := by kernel_rfl
 have hC4 : Tryz.prog.cellsOf 38 = 4 := by kernel_rfl
 obtain ⟨y0, y1, y2, y3, n, hx, hlen, h0, h1, h2, h3⟩ := Joins.trod_struct4 Tryz.underlying38 hd
 obtain ⟨c0, c1, c2, c3, rfl⟩ := Joins.array4 (show cs.size = 4 from by rw [← Array.length_toList, hlen, hC4])
 simp only [hC, List.drop_zero, List.drop_succ_cons, List.take_succ_cons, List.take_zero] at h0 h1 h2 h3
 obtain ⟨a, ea, ya, _⟩ := DataW.trod_int Tryz.underlying3 h0
 obtain ⟨b, eb, yb, _⟩ := DataW.trod_int Tryz.underlying3 h1
 obtain ⟨c, ec, yc, _⟩ := DataW.trod_int Tryz.underlying3 h2
 obtain ⟨e, ee, ye, _⟩ := DataW.trod_int Tryz.underlying3 h3
 subst ya yb yc ye
 simp only [Rows.laid_gouache_stroke_limits, Prod.mk.injEq, DataW.agg.injEq, List.cons.injEq, DataW.lit.injEq, Lit.int.injEq, true_and, and_true] at hx
 obtain ⟨⟨rfl, rfl, rfl, rfl⟩, _⟩ := hx
 simp at ea eb ec ee
 subst ea eb ec ee
 have hh : ∃ t k, W.heap[0]? = some (.cells #[.int .i64 (-65536), .int .i64 (-65536), .int .i64 65536, .int .i64 65536] t k) := by
  unfold World.var? at hv; rw [WA] at hv; simp only [Option.bind_some] at hv; split at hv
  ·rename_i cs2 t2 k2 he
   injection hv with hv
   subst hv; exact ⟨_, _, he⟩
  ·cases hv
 obtain ⟨t2, k2, hh⟩ := hh
 refine ⟨(Array.getElem?_eq_some_iff.1 hh).1, fun j hj => ?_⟩
 unfold World.cell?
 simp only [hh]
 rfl
end Go.Proofs.YtepelndbbhdofaaGreatDoor
/- Openers of chapter 14's arguments; masks. -/
namespace Go.Proofs.YtepelndbbhdofaaGreatDoor
open Go.ChangeShapes Go.WideShapes Go.ChangeAt Go.RowKit Pl
set_option linter.unusedVariables false
set_option linter.unusedSimpArgs false
set_option maxRecDepth 20000
section
variable {H : Type} {enc : TypeId × Value → H} {w : World} {base : Nat} {spare : Nat → Bool} {held : Bool}
end
theorem zcP (x : Int) : ∃ p : Int, bits .and .i64 x 63 = p ∧ 0 ≤ p ∧ p ≤ 63 := ⟨x % 64, Zt x 6 63 rfl (by decide), by omega, by omega⟩
/- Openers of chapter 14's arguments: rows of three and six integers, a Raw. -/
section
variable {H : Type} {enc : TypeId × Value → H} {w : World} {base : Nat} {spare : Nat → Bool} {held : Bool}
end
end Go.Proofs.YtepelndbbhdofaaGreatDoor
/- Plain: made strokes are valid, lie near the origin, and paint without an error. -/
namespace Go.Proofs.YtepelndbbhdofaaGreatDoor
open Go.RowKit Pl
set_option linter.unusedVariables false
set_option linter.unusedSimpArgs false
set_option maxRecDepth 20000
/-- Dabs within the bounds of the points. -/
def InD (m n R : Int) (d : Db) : Prop := (m ≤ d.x ∧ d.x ≤ n) ∧ (m ≤ d.y ∧ d.y ≤ n) ∧ 0 ≤ d.r ∧ d.r ≤ R
def InS (m n : Int) (a : Sp) : Prop := (m ≤ a.x ∧ a.x ≤ n) ∧ (m ≤ a.y ∧ a.y ≤ n)
theorem Wv {s : jd} (h : JI s) {m n R x y p : Int} (hx : m ≤ x ∧ x ≤ n) (hy : m ≤ y ∧ y ≤ n) (hp : 0 ≤ p ∧ p ≤ 255) (hR : s.rad ≤ R) : InD m n R (zch s x y p) := by
 have hr := h.r1
 have hr2 := h.r2
 have h7 := j5 (a := s.rad) (b := p) (m := 256) (k := 255) (by omega) (by omega) hp.1 hp.2
 have h9 : s.rad * p ≤ s.rad * 255 := Int.mul_le_mul_of_nonneg_left hp.2 (by omega)
 have h8 := yh (n := s.rad * p) (d := 255) (m := s.rad) h7.1 (by omega) (by omega)
 exact ⟨hx, hy, h8.1, Int.le_trans h8.2 hR⟩
theorem zei {s : jd} (h : JI s) {m n R : Int} (hp : ∀ a ∈ s.pts, InS m n a) (hR : s.rad ≤ R) {k : Nat} (hk : k < xl s) : InD m n R (xg s k) := by
 have hat : ∀ j, j < s.pts.length → InS m n (jJ s.pts j) ∧ Qs (jJ s.pts j) := fun j hj => ⟨hp _ (List.mem_of_getElem? (ju hj)), h.pt hj⟩
 by_cases hn : s.pts.length = 1
 ·unfold xg
  rw [if_pos hn]; obtain ⟨⟨h1, h2⟩, o1, o2, o3, o4, o5, o6⟩ := hat 0 (by omega); exact Wv h h1 h2 ⟨o5, o6⟩ hR
 ·obtain ⟨j, h1, h2, h3, e⟩ := Wy h hn hk
  obtain ⟨⟨a1, a2⟩, p1, p2, p3, p4, p5, p6⟩ := hat j (by omega); obtain ⟨⟨b1, b2⟩, q1, q2, q3, q4, q5, q6⟩ := hat (j + 1) h1; rw [e]; have hl : s.pha + k * s.spa - jq s.pts j < yI (jJ s.pts j) (jJ s.pts (j + 1)) := by
   have : jq s.pts (j + 1) = jq s.pts j + yI (jJ s.pts j) (jJ s.pts (j + 1)) := rfl; omega
  exact Wv h (vA (by omega) hl a1 b1) (vA (by omega) hl a2 b2) (vA (by omega) hl ⟨p5, p6⟩ ⟨q5, q6⟩) hR
theorem zck {s : jd} (h : JI s) {m n R : Int} (hp : ∀ a ∈ s.pts, InS m n a) (hR : s.rad ≤ R) : ∀ d ∈ jR s, InD m n R d := fun d hd => by
 obtain ⟨k, hk, rfl⟩ := List.mem_map.1 hd
 exact zei h hp hR (List.mem_range.1 hk)
theorem ZT (z : Int) : 0 ≤ z * z := by
 rcases Int.le_total 0 z with h | h
 ·exact Int.mul_nonneg h h
 ·have := Int.mul_nonneg (show 0 ≤ -z by omega) (show 0 ≤ -z by omega)
  rwa [Int.neg_mul_neg] at this
theorem zex {a b : Sp} {D s : Int} (hs : 0 ≤ s) (hx : -D ≤ b.x - a.x ∧ b.x - a.x ≤ D) (hy : -D ≤ b.y - a.y ∧ b.y - a.y ≤ D) (h : D * D + D * D < (s + 1) * (s + 1)) : yI a b ≤ s := by
 have sq : ∀ {z : Int}, -D ≤ z ∧ z ≤ D → z * z ≤ D * D := fun {z} hz => (XW (M := D) hz hz).2
 have h1 := sq hx
 have h2 := sq hy
 unfold yI
 rcases Int.lt_or_le s ((sqN (vn a b).toNat : Nat) : Int) with k | k
 ·have h3 : (s + 1).toNat ≤ sqN (vn a b).toNat := by omega
  have h4 := VE.1 h3; have h5 : ((s + 1).toNat * (s + 1).toNat : Nat) ≤ (vn a b).toNat := h4; have h6 : (((s + 1).toNat * (s + 1).toNat : Nat) : Int) = (s + 1) * (s + 1) := by rw [Int.natCast_mul]; congr 1 <;> omega
  have h7 : vn a b ≤ D * D + D * D := Int.add_le_add h1 h2; have hnn : 0 ≤ vn a b := Int.add_nonneg (ZT _) (ZT _); have h8 : ((vn a b).toNat : Int) = vn a b := Int.toNat_of_nonneg hnn; have h9 : (s + 1) * (s + 1) ≤ vn a b := by rw [← h6, ← h8]; exact Int.ofNat_le.2 h5
  exact absurd (Int.lt_of_le_of_lt (Int.le_trans h9 h7) h) (Int.lt_irrefl _)
 ·exact k
theorem W6 {l : List Sp} {s : Int} (hs : 0 ≤ s) (h : ∀ j, j + 1 < l.length → yI (jJ l j) (jJ l (j + 1)) ≤ s) : ∀ k, k + 1 ≤ l.length → jq l k ≤ k * s
 | 0, _ => by show (0 : Int) ≤ _; omega
 | k + 1, hk => by
  have e : jq l (k + 1) = jq l k + yI (jJ l k) (jJ l (k + 1)) := rfl; have h1 := W6 hs h k (by omega); have h2 := h k hk; rw [e, Int.natCast_add, Int.add_mul]; omega
theorem zaN (L : List Int) (k : Nat) : InS (-100) 299 (uD L k) ∧ 0 ≤ (uD L k).p ∧ (uD L k).p ≤ 255 := by
 have h1 := jS L (6 + 3 * k) (m := 400) (by omega)
 have h2 := jS L (7 + 3 * k) (m := 400) (by omega)
 have h3 := jS L (8 + 3 * k) (m := 256) (by omega)
 unfold uD InS
 simp only
 omega
theorem XV (L : List Int) : ∀ a ∈ (qo L).pts, InS (-100) 299 a ∧ 0 ≤ a.p ∧ a.p ≤ 255 := fun a ha => by
 obtain ⟨k, _, rfl⟩ := List.mem_map.1 ha
 exact zaN L k
theorem Kj (L : List Int) : (qo L).pts.length = madeN L := ZS _ _
theorem Qq (L : List Int) : JI (qo L) := by
 have hn := Ki L
 have hl := Kj L
 have r0 := jS L 0 (m := 64) (by omega)
 have s0 := jS L 1 (m := 120) (by omega)
 have p0 := jS L 2 (m := 100) (by omega)
 have hat : ∀ j, j < (qo L).pts.length → InS (-100) 299 (jJ (qo L).pts j) := fun j hj => (XV L _ (List.mem_of_getElem? (ju hj))).1
 have hlen : ∀ j, j + 1 < (qo L).pts.length → yI (jJ (qo L).pts j) (jJ (qo L).pts (j + 1)) ≤ 600 := fun j hj => by
  obtain ⟨a1, a2⟩ := hat j (by omega); obtain ⟨b1, b2⟩ := hat (j + 1) hj; exact zex (D := 400) (by omega) (by omega) (by omega) (by decide)
 have hpre := W6 (by omega) hlen ((qo L).pts.length - 1) (by omega)
 have hspa : (qo L).spa = 8 + qX L 1 120 := rfl
 have hrad : (qo L).rad = 1 + qX L 0 64 := rfl
 have hpha : (qo L).pha = qX L 2 100 := rfl
 refine ⟨by omega, by omega, by omega, by omega, by omega, by omega, by omega, by omega, fun a ha => ?_, ?_⟩
 ·obtain ⟨⟨h1, h2⟩, h3, h4⟩ := XV L a ha
  unfold Qs; omega
 ·unfold vc
  have : (((qo L).pts.length - 1 : Nat) : Int) * 600 ≤ 5 * 600 := by omega
  omega
theorem uE (L : List Int) : j2 (qo L) = true := (xk _).2 (Qq L)
theorem zaP (L : List Int) : ∀ d ∈ jR (qo L), InD (-100) 299 64 d := zck (Qq L) (fun a ha => (XV L a ha).1) (by have r0 := jS L 0 (m := 64) (by omega); show 1 + qX L 0 64 ≤ 64; omega)
/- Plain: painting made strokes onto made rasters ends without an error. -/
def Z8 : Rc := ⟨-3, -3, 4, 4⟩
theorem zaw : xo Z8 := by unfold Z8; refine ⟨?_, ?_, ?_, ?_, ?_, ?_, ?_, ?_⟩ <;> (simp only; omega)
theorem zav : areaN Z8 ≤ 1024 := by decide
theorem vw.nil (R : Rc) : vw R [] := fun e h => by cases h
theorem vw.fine {R : Rc} {ls : List TA} (h : vw R ls) : vw R (qc ls) := by
 unfold qc
 split
 ·exact h
 ·exact vw.nil R
/-- A dab near the origin turns tiles of the box alone. -/
theorem zcR {d : Db} (h : InD (-100) 299 64 d) : zbr Z8 d := fun hk x y hh => by
 unfold Ys at hk
 rw [Bool.or_eq_false_iff] at hk
 obtain ⟨⟨a1, a2⟩, ⟨a3, a4⟩, a5, a6⟩ := h
 have e := zdz d hk.2
 have hE := (yd _).1 hk.2
 rw [e] at hh hE
 unfold kn at hh hE
 unfold zAA at hh
 rw [qz] at hh ⊢
 unfold Z8
 simp only at hh hE ⊢
 omega
theorem zaO (L : List Int) : ∀ d ∈ jR (qo L), zbr Z8 d := fun d hd => zcR (zaP L d hd)
theorem Qp (L : List Int) : (qo L).col.ok := vm _
/-- Painted without an error, and within the box. -/
theorem Q5 {s : jd} {L : List Int} (hd : jR s = jR (qo L)) (hv : j2 s = true) {ls : List TA} (hb : vw Z8 ls) : (jk s ls).2 = 0 ∧ vw Z8 (jk s ls).1 := by
 unfold jk
 rw [if_pos hv, hd]
 exact Q0 (s := s) zaw zav _ _ (QR (Qq L)) (zaO L) (jG ls) hb.fine
theorem zc9 {R : Rc} {ls : List TA} {x y : Int} {t : Nat → Px} (h : vw R ls) (hx : qU R x y = true) : vw R (ud ls x y t) := fun e he => by
 unfold ud xQ at he
 split at he
 ·split at he
  ·rcases Za he with k | ⟨k, _⟩
   ·exact h.fine e k
   ·rw [k]; exact hx
  ·cases he
 ·cases he
theorem ZC (L : List Int) : ∀ k, vw Z8 (xB L k)
 | 0 => vw.nil _
 | k + 1 => by
  show vw Z8 (if _ then _ else _)
  split
  ·have h1 := zAB L (3 * k)
   have h2 := zAB L (3 * k + 1); refine zc9 (ZC L k) ?_; rw [qz]; unfold Z8; simp only; omega
  ·exact ZC L k
theorem J4 (L : List Int) : vw Z8 (jM L) := ZC L 40
end Go.Proofs.YtepelndbbhdofaaGreatDoor
/- of: a made stroke with one field changed. -/
namespace Go.Proofs.YtepelndbbhdofaaGreatDoor
open Go.RowKit Go.Shelf Pl
set_option linter.unusedVariables false
set_option linter.unusedSimpArgs false
set_option maxRecDepth 20000
def oIx (L : List Int) (val : Int) : Nat := (val % 65536 % (madeN L : Int)).toNat
def zfO (n k : Nat) : List Sp := (List.range k).map fun j => ⟨((n + j : Nat) : Int), 0, 9⟩
def ofN (val : Int) : Nat := (64 + val % 2).toNat
def zgI (l : List Sp) (k : Nat) : List Sp := l ++ zfO l.length k
/-- The stroke that 'of' returns. -/
def chS (s : jd) (c : Int) (i : Nat) (val : Int) : jd :=
 if c = 1 then { s with pts := s.pts.set i ⟨val, (jJ s.pts i).y, (jJ s.pts i).p⟩ }
 else if c = 2 then { s with pts := s.pts.set i ⟨(jJ s.pts i).x, val, (jJ s.pts i).p⟩ }
 else if c = 3 then { s with pts := s.pts.set i ⟨(jJ s.pts i).x, (jJ s.pts i).y, val⟩ }
 else if c = 4 then { s with rad := val }
 else if c = 5 then { s with spa := val }
 else if c = 6 then { s with pha := val }
 else if c = 7 then { s with pts := [] }
 else if c = 8 then { s with pts := zgI s.pts (ofN val - s.pts.length) }
 else s
def ofS (L : List Int) (how val : Int) : jd := chS (qo L) (how % 16) (oIx L val) val
def zih : Option Value → Nat
 | some (.slice _ n _) => n
 | _ => 0
end Go.Proofs.YtepelndbbhdofaaGreatDoor
/- Plain: an image of one raster pasted into another. -/
namespace Go.Proofs.YtepelndbbhdofaaGreatDoor
open Go.RowKit Pl
set_option linter.unusedVariables false
set_option linter.unusedSimpArgs false
theorem K5 (ls : List TA) (X Y : Int) {i : Nat} (hi : i < 64) : zU ls X Y i = xm ls (X * 8 + (i : Int) % 8) (Y * 8 + (i : Int) / 8) := by
 unfold xm
 have e1 : (X * 8 + (i : Int) % 8) / 8 = X := by omega
 have e2 : (Y * 8 + (i : Int) / 8) / 8 = Y := by omega
 have e3 : (8 * ((Y * 8 + (i : Int) / 8) % 8) + (X * 8 + (i : Int) % 8) % 8).toNat = i := by omega
 rw [e1, e2, e3]
end Go.Proofs.YtepelndbbhdofaaGreatDoor
/- Plain: what the laws on painted strokes (StrokeErase, StrokeHalves, StrokeArea) say. -/
namespace Go.Proofs.YtepelndbbhdofaaGreatDoor
open Go.RowKit Pl
set_option linter.unusedVariables false
set_option linter.unusedSimpArgs false
set_option maxRecDepth 20000
theorem zcN (L : List Int) : ∀ d ∈ jR (qo L), VJ d := QR (Qq L)
/-- A pixel of a raster painted with the dabs of a made stroke. -/
theorem zeG {s : jd} {M : List Int} (hd : jR s = jR (qo M)) (hv : j2 s = true) (hc : s.col.ok) (L : List Int) (x y : Int) : xm (jk s (jM L)).1 x y = (jR (qo M)).foldl (Qa s x y) (xm (jM L) x y) := by
 have h0 := (Q5 hd hv (J4 L)).1
 unfold jk at h0 ⊢
 rw [if_pos hv, xy (yX L), hd] at h0 ⊢
 exact Q1 hc x y _ _ (zcN M) (yX L) (ZD L) h0
/-! ### StrokeErase -/
def zid (s : jd) : jd := { s with era := true }
def ziC (s : jd) : jd := { s with era := false, col := ⟨s.col.r, s.col.g, s.col.b, 255⟩ }
/-! ### StrokeHalves -/
/-! ### StrokeArea -/
theorem YQ (L M : List Int) (x y : Int) (h : qU (uQ (qo M)) x y = false) : xm (jk (qo M) (jM L)).1 x y = xm (jM L) x y := by
 rw [zeG rfl (uE M) (Qp M)]
 refine Kb _ _ fun d hd => zca h d ?_
 unfold y9
 rw [if_pos (uE M)]
 exact hd
theorem VD {r : Rc} (h : qn r = true) (x y : Int) : qU r x y = false := by
 rcases Bool.eq_false_or_eq_true (qU r x y) with e | e
 ·have h1 := (qz _ _ _).1 e
  have h2 := (yd r).2 (by omega); rw [h2] at h; cases h
 ·exact e
def K8 (p : Int × Int) : Rc := ⟨8 * p.1, 8 * p.2, 8 * p.1 + 8, 8 * p.2 + 8⟩
theorem zat (L M : List Int) {p : Int × Int} (h : p ∈ xt (jM L) (jk (qo M) (jM L)).1) : qn (yf (K8 p) (uQ (qo M))) = false := by
 have hv := (wt (s := qo M) (Qp M) (ls := jM L) (ZD L)).1
 have hva := yX L
 have hD := ((JX _ _ (jC hva) (jC hv) (Zk hva) (Zk hv)).2 p).1 h
 unfold x9 at hD
 rcases Bool.eq_false_or_eq_true (qn (yf (K8 p) (uQ (qo M)))) with e | e
 ·exfalso
  have : kO (zU (jM L) p.1 p.2) (zU (jk (qo M) (jM L)).1 p.1 p.2) = true := wh fun i hi => by
   rw [K5 _ _ _ hi, K5 _ _ _ hi]; refine (YQ L M _ _ ?_).symm; have hn : qU (yf (K8 p) (uQ (qo M))) (p.1 * 8 + (i : Int) % 8) (p.2 * 8 + (i : Int) / 8) = false := VD e _ _; rw [uz, Bool.and_eq_false_iff] at hn; rcases hn with hn | hn
   ·rw [(qz _ _ _).2 (by unfold K8; simp only; omega)] at hn
    cases hn
   ·exact hn
  rw [this] at hD; cases hD
 ·exact e
/- Plain: what StrokeShift says. -/
def zh8 (X Y : Int) : Rc := ⟨(X - 11) / 8, (Y - 11) / 8, (X + 22) / 8 + 1, (Y + 22) / 8 + 1⟩
end Go.Proofs.YtepelndbbhdofaaGreatDoor
/- Changed of package raster. -/
namespace Go.Proofs.YtepelndbbhdofaaGreatDoor
open Go.RowKit Go.Shelf Pl
set_option linter.unusedVariables false
set_option linter.unusedSimpArgs false
set_option maxRecDepth 20000
def Kd : Value → Nat
 | .slice _ n _ => n
 | _ => 0
theorem X9 {g o c : Nat} {x : TA} {r : List TA} {w : World} (h : qt g o (x :: r) w) (hc : r.length + 1 ≤ c) : RS (.slice (if c = 1 then some ⟨g, o, none⟩ else some ⟨g, o + 258, none⟩) r.length (c - 1)) r w := by
 have := X8 (ls := x :: r) (fun _ => h) hc (k := 1) (by simp)
 simpa using this
theorem we (ax ay bx bv : Int) (n : Int) (w : World) (hn : vo ax ay bx bv = n) : Calls Tryz.prog 102 #[.agg #[.int .i64 ax, .int .i64 ay], .agg #[.int .i64 bx, .int .i64 bv]] w fun e w' => e = .returned (.int .i64 n) ∧ Below w.heap.size w w' := hn ▸ kL ax ay bx bv w
theorem zaU (d e : TA) : (qQ d.x d.y e.x e.y = true ∧ vo d.x d.y e.x e.y = -1) ∨ (qQ d.x d.y e.x e.y = false ∧ qQ e.x e.y d.x d.y = true ∧ vo d.x d.y e.x e.y = 1) ∨ (qQ d.x d.y e.x e.y = false ∧ qQ e.x e.y d.x d.y = false ∧ vo d.x d.y e.x e.y = 0) := by
 have h1 := Ja d.x d.y e.x e.y
 have h2 := WX d.x d.y e.x e.y
 have hb := zeP d.x d.y e.x e.y
 have a1 := ZB (a := d.x) (b := d.y) (c := e.x) (d := e.y)
 have a2 := ZB (a := e.x) (b := e.y) (c := d.x) (d := d.y)
 cases hA : qQ d.x d.y e.x e.y with
 | true => rw [hA] at h1; exact .inl ⟨rfl, by have := of_decide_eq_true h1; omega⟩
 | false =>
  rw [hA] at h1; have h1 := of_decide_eq_false h1; rw [hA] at a1; cases hB : qQ e.x e.y d.x d.y with
  | true =>
   have h3 := a2.1 hB; have h4 : xT d.x d.y e.x e.y = false := decide_eq_false (by omega); rw [h4] at h2; have h2 := of_decide_eq_false h2; exact .inr (.inl ⟨rfl, rfl, by omega⟩)
  | false =>
   rw [hB] at a2; have h5 : ¬ (d.y < e.y ∨ d.y = e.y ∧ d.x < e.x) := fun h => by have := a1.2 h; cases this
   have h6 : ¬ (e.y < d.y ∨ e.y = d.y ∧ e.x < d.x) := fun h => by have := a2.2 h; cases this
   have h4 : xT d.x d.y e.x e.y = true := decide_eq_true (by omega); rw [h4] at h2; exact .inr (.inr ⟨rfl, rfl, of_decide_eq_true h2⟩)
set_option maxHeartbeats 16000000 in
theorem zan (v u : Value) (ls ks : List TA) (w : World) (h : RS v ls w) (h' : RS u ks w) (tk : qN ls) (tk' : qN ks) (hn : ls.length ≤ maxLen) (hn' : ks.length ≤ maxLen) : Calls Tryz.prog 44 #[.agg #[v], .agg #[u]] w fun e w' => ∃ a cp, e = .returned (.slice a (xt (qc ls) (qc ks)).length cp) ∧ xp psE (.slice a (xt (qc ls) (qc ks)).length cp) (xt (qc ls) (qc ks)) w' ∧ Below w.heap.size w w' := by
 have B := Below.refl w.heap.size w
 obtain ⟨a1, c1, hT⟩ := Qj v ls w h tk hn
 have HT1 := Lib.hid hT
 clear hT
 obtain ⟨a2, c2, hT⟩ := Qj u ks w h' tk' hn'
 have HT2 := Lib.hid hT
 clear hT
 have hfl := yt ls
 have hfk := yt ks
 obtain ⟨a, c, rfl, hc⟩ := h.len
 obtain ⟨a', c', rfl, hc'⟩ := h'.len
 clear h h' tk tk'
 generalize qc ls = LS at *
 generalize qc ks = KS at *
 have hch := YT LS KS
 have rs1 := (HT1.out _ B).2
 have rs2 := (HT2.out _ B).2
 go_enter Tryz.func44, Tryz.ntmps44
 go_upto_region 0 with fail
 refine wp_region_lit ?_
 (refine zt (t := 64) rfl _ rfl _ rfl (zY B ?_); clear B; intro b_r2 wn zb zd r2 za zf zk B; simp only [zo])
 (refine zt (t := 64) rfl _ rfl _ rfl (zY B ?_); clear B; intro b_r3 wn zb zd r3 za zf zk B; (try have zh := r2.lt); (try replace r2 := r2.below (za.mono zb)); simp only [zo])
 refine zy 1 ?_
 refine wpList_nil ?_
 go_upto_region 1 with fail
 refine wp_region_lit ?_
 refine zy 1 ?_
 refine wpList_nil ?_
 go_upto_region 2 with fail
 try have lx_r2 := r2.lt
 try have lx_r3 := r3.lt
 refine zJ 6 [(1, zN ?v1_1), (3, zN ?v1_3)] (by kernel_rfl) (by kernel_rfl) (by kernel_rfl) ?_
 rotate_left 2
 simp only [jZ, Nat.reduceAdd]
 refine kX 1 ?_
 refine zD (by rfl) (by first | rfl | simp [Region.wanted, yielded]) ?_ ?_
 ·intro wn za hE Kx hKx
  have zf := B.size; have zg := za.size; replace B := B.trans (za.mono B.size)
  (try replace r2 := r2.below za)
  (try replace r3 := r3.below za)
  refine zP rfl (enters_of Tryz.func104 (by kernel_rfl) rfl) (by simp only [Act.eval, qI]; rfl) ?_
  refine ((HT1.out _ B).1).mono ?_; rintro e wm ⟨rfl, zl⟩; refine ⟨_, rfl, ?_⟩; have hz := hKx () wm trivial zl
  dsimp only [zN] at hz
  exact hz
 rintro ⟨⟩
 dsimp only [zN]
 simp only [zo]
 refine kX 1 ?_
 refine zD (by rfl) (by first | rfl | simp [Region.wanted, yielded]) ?_ ?_
 ·intro wn za hE Kx hKx
  have zf := B.size; have zg := za.size; replace B := B.trans (za.mono B.size)
  (try replace r2 := r2.below za)
  (try replace r3 := r3.below za)
  refine zP rfl (enters_of Tryz.func104 (by kernel_rfl) rfl) (by simp only [Act.eval, qI]; rfl) ?_
  refine ((HT2.out _ B).1).mono ?_; rintro e wm ⟨rfl, zl⟩; refine ⟨_, rfl, ?_⟩; have hz := hKx () wm trivial zl
  dsimp only [zN] at hz
  exact hz
 rintro ⟨⟩
 dsimp only [zN]
 simp only [zo]
 refine kX 2 ?_
 refine qi ?_
 intro wn za hE
 have zf := B.size
 have zg := za.size
 replace B := B.trans (za.mono B.size)
 (try replace r2 := r2.below za)
 (try replace r3 := r3.below za)
 clear hE
 try simp only [List.drop_succ_cons, List.drop_zero]
 refine zL.normal ?_
 clear r2 r3 HT1 HT2
 have od : jb psE w.heap.size (.slice none 0 0) [] wn := jb.nil _ _
 go_wp2
 go_loopw [5, 6, 7] (fun out one two wr => ∃ (X Y : List TA) (O : List (Int × Int)) (ax ay ao : Option Addr) (cx cy co : Nat), one = .slice ax X.length cx ∧ two = .slice ay Y.length cy ∧ out = .slice ao O.length co ∧ RS (.slice ax X.length cx) X w ∧ RS (.slice ay Y.length cy) Y w ∧ (True) ∧ Below w.heap.size w wr ∧ jb psE w.heap.size (.slice ao O.length co) O wr ∧ O ++ xt X Y = xt LS KS) (fun _ one two _ => Kd one + Kd two)
 case atStart => exact ⟨LS, KS, [], _, _, _, _, _, _, rfl, rfl, rfl, rs1, rs2, trivial, B, od, rfl⟩
 case round =>
  clear B od rs1 rs2; obtain ⟨X, Y, O, ax, ay, ao, cx, cy, co, rfl, rfl, rfl, rs1, rs2, _, B, od, hO⟩ := hrel; have hOl := congrArg List.length hO; rw [List.length_append] at hOl; have hO1 : O.length ≤ 2048 := by omega
  clear hOl; have HST := Lib.hid hO; have zf := B.size; obtain ⟨_, _, e1, hcx⟩ := rs1.len; simp only [Value.slice.injEq] at e1; obtain ⟨rfl, _, rfl⟩ := e1; obtain ⟨_, _, e2, hcy⟩ := rs2.len; simp only [Value.slice.injEq] at e2; obtain ⟨rfl, _, rfl⟩ := e2; clear hO; cases X with
  | nil =>
   cases Y with
   | nil =>
    go_upto_region 3 with fail
    refine wp_region_lit ?_; refine zy 1 ?_; refine zw (by first | rfl | simp [Region.wanted, yielded]) rfl Tryz.underlying62 rfl ?_; simp only [zo]; refine zy 3 ?_; refine zw (by first | rfl | simp [Region.wanted, yielded]) rfl Tryz.underlying62 rfl ?_; simp only [zo]; refine zy 2 ?_; refine wpList_nil ?_; go_upto_region 13 with fail
    refine wp_region_lit ?_; refine zy 2 ?_; refine wpList_nil ?_; iterate 3 go_step
    go_ret; have hE := HST.out; rw [Zx, List.append_nil] at hE; subst hE; exact ⟨_, _, rfl, od.rs, B⟩
   | cons e Y =>
    have HCH := Lib.hid (ux e Y); obtain ⟨gy, oy, rfl, ry0⟩ := rs2.at (by simp); have ry := ry0.of_eq (B.block _ ry0.lt); have rt := X9 ry0 hcy; have bY : ((Y.length : Int) + 1 == 0) = false := beq_eq_false_iff_ne.2 (by omega); go_upto_region 3 with fail
    refine wp_region_lit ?_; refine zy 1 ?_; refine zw (by first | rfl | simp [Region.wanted, yielded]) rfl Tryz.underlying62 rfl ?_; simp only [zo]; refine zy 3 ?_; refine zw (by first | rfl | simp [Region.wanted, yielded]) rfl Tryz.underlying62 rfl ?_; simp only [zo]; refine zy 2 ?_; refine wpList_nil ?_; go_wp2; refine zA (by kernel_rfl) (by kernel_rfl) ?_; repeat (first | go_big_quiet_skip | (go_big_quiet_want; first | (refine zn (t := 95) rfl _ _ _ rfl (fun w hw => qj (z7 rx w hw) (show 0 < (d :: X).length by simp) (show aT (d :: X) 0 = d from rfl)) (by first | rfl | omega) ?_; simp only [zo]; go_big_quiet_on) | (refine zn (t := 123) rfl _ _ _ rfl (fun w hw => jA (z7 rx w hw) (show 0 < (d :: X).length by simp) (show aT (d :: X) 0 = d from rfl)) (by first | rfl | omega) ?_; simp only [zo]; go_big_quiet_on) | (refine zn (t := 95) rfl _ _ _ rfl (fun w hw => qj (z7 ry w hw) (show 0 < (e :: Y).length by simp) (show aT (e :: Y) 0 = e from rfl)) (by first | rfl | omega) ?_; simp only [zo]; go_big_quiet_on) | (refine zn (t := 123) rfl _ _ _ rfl (fun w hw => jA (z7 ry w hw) (show 0 < (e :: Y).length by simp) (show aT (e :: Y) 0 = e from rfl)) (by first | rfl | omega) ?_; simp only [zo]; go_big_quiet_on) | (go_big_quiet_op; first | go_big_quiet_on | go_big_quiet_call ((fail)))))
    refine wpQuiet_nil ?_; intro wn za; have zf := B.size; have zg := za.size; replace B := B.trans (za.mono B.size); try replace od := od.below za
    try replace ry := ry.below za
    go_wp2; refine zA (by kernel_rfl) (by kernel_rfl) ?_; repeat (first | go_big_quiet_skip | (go_big_quiet_want; first | (refine zn (t := 95) rfl _ _ _ rfl (fun w hw => qj (z7 rx w hw) (show 0 < (d :: X).length by simp) (show aT (d :: X) 0 = d from rfl)) (by first | rfl | omega) ?_; simp only [zo]; go_big_quiet_on) | (refine zn (t := 123) rfl _ _ _ rfl (fun w hw => jA (z7 rx w hw) (show 0 < (d :: X).length by simp) (show aT (d :: X) 0 = d from rfl)) (by first | rfl | omega) ?_; simp only [zo]; go_big_quiet_on) | (refine zn (t := 95) rfl _ _ _ rfl (fun w hw => qj (z7 ry w hw) (show 0 < (e :: Y).length by simp) (show aT (e :: Y) 0 = e from rfl)) (by first | rfl | omega) ?_; simp only [zo]; go_big_quiet_on) | (refine zn (t := 123) rfl _ _ _ rfl (fun w hw => jA (z7 ry w hw) (show 0 < (e :: Y).length by simp) (show aT (e :: Y) 0 = e from rfl)) (by first | rfl | omega) ?_; simp only [zo]; go_big_quiet_on) | (go_big_quiet_op; first | go_big_quiet_on | go_big_quiet_call ((fail)))))
    refine wpQuiet_nil ?_; intro wn za; have zf := B.size; have zg := za.size; replace B := B.trans (za.mono B.size); try replace od := od.below za
    try replace ry := ry.below za
    go_upto_region 11 with fail
    refine wp_region_lit ?_; refine j4 5 ?_; repeat (first | go_big_quiet_skip | (go_big_quiet_want; first | ((first | refine zn (t := 95) rfl _ _ _ rfl (fun w hw => qj (z7 rx w hw) (show 0 < (d :: X).length by simp) (show aT (d :: X) 0 = d from rfl)) (by first | rfl | omega) ?_ | refine zn (t := 95) rfl _ _ _ rfl (fun w hw => qj (z7 ry w hw) (show 0 < (e :: Y).length by simp) (show aT (e :: Y) 0 = e from rfl)) (by first | rfl | omega) ?_ | refine qB ?_ | refine qC ?_); simp only [zo]; go_big_quiet_on) | (go_big_quiet_op; go_big_quiet_on)))
    refine wpQuiet_nil ?_
    (refine xI (E := psE) rfl _ rfl ((e.x, e.y)) rfl (by omega) (zY B ?_); clear B; intro b_s1 wn zb zd s1 za zf zk B; replace od := od.below (za.mono zb); (try have zh := ry.lt); (try replace ry := ry.below (za.mono zb)); simp only [zo])
    (at_builtin; refine jw rfl _ _ rfl _ _ rfl rfl od ((xp.one s1)) (by simp only [List.length_append, List.length_cons, List.length_nil]; omega) (by omega) ?_; intro v_od wn ht za; have zf := B.size; have hbz := za.size; replace B := B.trans (za.mono (by omega)); clear od; (try replace ry := ry.of_eq (za.block _ (by omega))); have od := ht; clear ht; obtain ⟨a_od, c_od, hv, hco⟩ := od.len; (try simp only [List.length_append, List.length_cons, List.length_nil, Nat.zero_add] at hv hco); subst hv; simp only [zo])
    refine zy 1 ?_; refine wpList_nil ?_; go_upto_region 12 with fail
    refine wp_region_lit ?_; refine zy 3 ?_; refine wpList_nil ?_; go_wp2; go_roundw
    case rel => exact ⟨[], Y, O ++ [jc e], _, _, _, _, _, _, rfl, rfl, by rw [List.length_append]; rfl, rs1, rt, trivial, B, by rw [List.length_append]; exact od, by rw [List.append_assoc]; exact (congrArg (O ++ ·) HCH.out).symm.trans HST.out⟩
    case measure => simp [Kd]
  | cons d X =>
   obtain ⟨gx, ox, rfl, rx0⟩ := rs1.at (by simp); have rx := rx0.of_eq (B.block _ rx0.lt); have rtx := X9 rx0 hcx; have bX : ((X.length : Int) + 1 == 0) = false := beq_eq_false_iff_ne.2 (by omega); cases Y with
   | nil =>
    have HCH := Lib.hid (Zw d X); simp only [List.length_nil] at rs2 ⊢; go_upto_region 3 with fail
    refine wp_region_lit ?_; refine zy 1 ?_; refine zw (by first | rfl | simp [Region.wanted, yielded]) rfl Tryz.underlying62 rfl ?_; simp only [zo]; refine zy 3 ?_; refine qP ?hs8_5 ?_
    case hs8_5 => kernel_rfl
    simp only [zo]; refine zy 2 ?_; refine wpList_nil ?_; go_wp2; refine zA (by kernel_rfl) (by kernel_rfl) ?_; repeat (first | go_big_quiet_skip | (go_big_quiet_want; first | (go_big_quiet_op; first | go_big_quiet_on | go_big_quiet_call ((fail)))))
    refine wpQuiet_nil ?_; intro wn za; have zf := B.size; have zg := za.size; replace B := B.trans (za.mono B.size); try replace od := od.below za
    try replace rx := rx.below za
    go_upto_region 8 with fail
    refine wp_region_lit ?_; refine j4 5 ?_; repeat (first | go_big_quiet_skip | (go_big_quiet_want; first | ((first | refine zn (t := 95) rfl _ _ _ rfl (fun w hw => qj (z7 rx w hw) (show 0 < (d :: X).length by simp) (show aT (d :: X) 0 = d from rfl)) (by first | rfl | omega) ?_ | refine zn (t := 95) rfl _ _ _ rfl (fun w hw => qj (z7 ry w hw) (show 0 < (e :: Y).length by simp) (show aT (e :: Y) 0 = e from rfl)) (by first | rfl | omega) ?_ | refine qB ?_ | refine qC ?_); simp only [zo]; go_big_quiet_on) | (go_big_quiet_op; go_big_quiet_on)))
    refine wpQuiet_nil ?_
    (refine xI (E := psE) rfl _ rfl ((d.x, d.y)) rfl (by omega) (zY B ?_); clear B; intro b_s1 wn zb zd s1 za zf zk B; replace od := od.below (za.mono zb); (try have zh := rx.lt); (try replace rx := rx.below (za.mono zb)); (try have zh := ry.lt); (try replace ry := ry.below (za.mono zb)); simp only [zo])
    (at_builtin; refine jw rfl _ _ rfl _ _ rfl rfl od ((xp.one s1)) (by simp only [List.length_append, List.length_cons, List.length_nil]; omega) (by omega) ?_; intro v_od wn ht za; have zf := B.size; have hbz := za.size; replace B := B.trans (za.mono (by omega)); clear od; (try replace rx := rx.of_eq (za.block _ (by omega))); (try replace ry := ry.of_eq (za.block _ (by omega))); have od := ht; clear ht; obtain ⟨a_od, c_od, hv, hco⟩ := od.len; (try simp only [List.length_append, List.length_cons, List.length_nil, Nat.zero_add] at hv hco); subst hv; simp only [zo])
    refine zy 1 ?_; refine wpList_nil ?_; go_upto_region 9 with fail
    refine wp_region_lit ?_; refine zy 3 ?_; refine wpList_nil ?_; go_wp2; go_roundw
    case rel => exact ⟨X, [], O ++ [jc d], _, _, _, _, _, _, rfl, rfl, by rw [List.length_append]; rfl, rtx, rs2, trivial, B, by rw [List.length_append]; exact od, by rw [List.append_assoc]; exact (congrArg (O ++ ·) HCH.out).symm.trans HST.out⟩
    case measure => simp [Kd]
   | cons e Y =>
    obtain ⟨gy, oy, rfl, ry0⟩ := rs2.at (by simp); have ry := ry0.of_eq (B.block _ ry0.lt); have rty := X9 ry0 hcy; have bY : ((Y.length : Int) + 1 == 0) = false := beq_eq_false_iff_ne.2 (by omega); rcases zaU d e with ⟨o1, o2⟩ | ⟨o1, o3, o2⟩ | ⟨o1, o3, o2⟩
    ·have HCH := Lib.hid (xN d X e Y)
     rw [if_pos o1] at HCH; have HO := Lib.hid o2; clear o1 o2 ; go_upto_region 3 with fail
     refine wp_region_lit ?_; refine zy 1 ?_; refine zw (by first | rfl | simp [Region.wanted, yielded]) rfl Tryz.underlying62 rfl ?_; simp only [zo]; refine zy 3 ?_; refine qP ?hs11_5 ?_
     case hs11_5 => kernel_rfl
     simp only [zo]; refine zy 2 ?_; refine wpList_nil ?_; go_wp2; refine zA (by kernel_rfl) (by kernel_rfl) ?_; repeat (first | go_big_quiet_skip | (go_big_quiet_want; first | (refine zn (t := 95) rfl _ _ _ rfl (fun w hw => qj (z7 rx w hw) (show 0 < (d :: X).length by simp) (show aT (d :: X) 0 = d from rfl)) (by first | rfl | omega) ?_; simp only [zo]; go_big_quiet_on) | (refine zn (t := 123) rfl _ _ _ rfl (fun w hw => jA (z7 rx w hw) (show 0 < (d :: X).length by simp) (show aT (d :: X) 0 = d from rfl)) (by first | rfl | omega) ?_; simp only [zo]; go_big_quiet_on) | (refine zn (t := 95) rfl _ _ _ rfl (fun w hw => qj (z7 ry w hw) (show 0 < (e :: Y).length by simp) (show aT (e :: Y) 0 = e from rfl)) (by first | rfl | omega) ?_; simp only [zo]; go_big_quiet_on) | (refine zn (t := 123) rfl _ _ _ rfl (fun w hw => jA (z7 ry w hw) (show 0 < (e :: Y).length by simp) (show aT (e :: Y) 0 = e from rfl)) (by first | rfl | omega) ?_; simp only [zo]; go_big_quiet_on) | (go_big_quiet_op; first | go_big_quiet_on | go_big_quiet_call ((first | (go_at_call 102; exact zC (we d.x d.y e.x e.y (-1) _ HO.out)))))))
     refine wpQuiet_nil ?_; intro wn za; have zf := B.size; have zg := za.size; replace B := B.trans (za.mono B.size); try replace od := od.below za
     try replace rx := rx.below za
     try replace ry := ry.below za
     go_upto_region 8 with fail
     refine wp_region_lit ?_; refine j4 5 ?_; repeat (first | go_big_quiet_skip | (go_big_quiet_want; first | ((first | refine zn (t := 95) rfl _ _ _ rfl (fun w hw => qj (z7 rx w hw) (show 0 < (d :: X).length by simp) (show aT (d :: X) 0 = d from rfl)) (by first | rfl | omega) ?_ | refine zn (t := 95) rfl _ _ _ rfl (fun w hw => qj (z7 ry w hw) (show 0 < (e :: Y).length by simp) (show aT (e :: Y) 0 = e from rfl)) (by first | rfl | omega) ?_ | refine qB ?_ | refine qC ?_); simp only [zo]; go_big_quiet_on) | (go_big_quiet_op; go_big_quiet_on)))
     refine wpQuiet_nil ?_
     (refine xI (E := psE) rfl _ rfl ((d.x, d.y)) rfl (by omega) (zY B ?_); clear B; intro b_s1 wn zb zd s1 za zf zk B; replace od := od.below (za.mono zb); (try have zh := rx.lt); (try replace rx := rx.below (za.mono zb)); (try have zh := ry.lt); (try replace ry := ry.below (za.mono zb)); simp only [zo])
     (at_builtin; refine jw rfl _ _ rfl _ _ rfl rfl od ((xp.one s1)) (by simp only [List.length_append, List.length_cons, List.length_nil]; omega) (by omega) ?_; intro v_od wn ht za; have zf := B.size; have hbz := za.size; replace B := B.trans (za.mono (by omega)); clear od; (try replace rx := rx.of_eq (za.block _ (by omega))); (try replace ry := ry.of_eq (za.block _ (by omega))); have od := ht; clear ht; obtain ⟨a_od, c_od, hv, hco⟩ := od.len; (try simp only [List.length_append, List.length_cons, List.length_nil, Nat.zero_add] at hv hco); subst hv; simp only [zo])
     refine zy 1 ?_; refine wpList_nil ?_; go_upto_region 9 with fail
     refine wp_region_lit ?_; refine zy 3 ?_; refine wpList_nil ?_; go_wp2; go_roundw
     case rel => exact ⟨X, e :: Y, O ++ [jc d], _, _, _, _, _, _, rfl, rfl, by rw [List.length_append]; rfl, rtx, rs2, trivial, B, by rw [List.length_append]; exact od, by rw [List.append_assoc]; exact (congrArg (O ++ ·) HCH.out).symm.trans HST.out⟩
     case measure => simp [Kd]
    ·have HCH := Lib.hid (xN d X e Y)
     rw [if_neg (by rw [o1]; decide), if_pos o3] at HCH
     have HO := Lib.hid o2; clear o1 o2 o3; go_upto_region 3 with fail
     refine wp_region_lit ?_; refine zy 1 ?_; refine zw (by first | rfl | simp [Region.wanted, yielded]) rfl Tryz.underlying62 rfl ?_; simp only [zo]; refine zy 3 ?_; refine qP ?hs14_5 ?_
     case hs14_5 => kernel_rfl
     simp only [zo]; refine zy 2 ?_; refine wpList_nil ?_; go_wp2; refine zA (by kernel_rfl) (by kernel_rfl) ?_; repeat (first | go_big_quiet_skip | (go_big_quiet_want; first | (refine zn (t := 95) rfl _ _ _ rfl (fun w hw => qj (z7 rx w hw) (show 0 < (d :: X).length by simp) (show aT (d :: X) 0 = d from rfl)) (by first | rfl | omega) ?_; simp only [zo]; go_big_quiet_on) | (refine zn (t := 123) rfl _ _ _ rfl (fun w hw => jA (z7 rx w hw) (show 0 < (d :: X).length by simp) (show aT (d :: X) 0 = d from rfl)) (by first | rfl | omega) ?_; simp only [zo]; go_big_quiet_on) | (refine zn (t := 95) rfl _ _ _ rfl (fun w hw => qj (z7 ry w hw) (show 0 < (e :: Y).length by simp) (show aT (e :: Y) 0 = e from rfl)) (by first | rfl | omega) ?_; simp only [zo]; go_big_quiet_on) | (refine zn (t := 123) rfl _ _ _ rfl (fun w hw => jA (z7 ry w hw) (show 0 < (e :: Y).length by simp) (show aT (e :: Y) 0 = e from rfl)) (by first | rfl | omega) ?_; simp only [zo]; go_big_quiet_on) | (go_big_quiet_op; first | go_big_quiet_on | go_big_quiet_call ((first | (go_at_call 102; exact zC (we d.x d.y e.x e.y 1 _ HO.out)))))))
     refine wpQuiet_nil ?_; intro wn za; have zf := B.size; have zg := za.size; replace B := B.trans (za.mono B.size); try replace od := od.below za
     try replace rx := rx.below za
     try replace ry := ry.below za
     go_wp2; refine zA (by kernel_rfl) (by kernel_rfl) ?_; repeat (first | go_big_quiet_skip | (go_big_quiet_want; first | (refine zn (t := 95) rfl _ _ _ rfl (fun w hw => qj (z7 rx w hw) (show 0 < (d :: X).length by simp) (show aT (d :: X) 0 = d from rfl)) (by first | rfl | omega) ?_; simp only [zo]; go_big_quiet_on) | (refine zn (t := 123) rfl _ _ _ rfl (fun w hw => jA (z7 rx w hw) (show 0 < (d :: X).length by simp) (show aT (d :: X) 0 = d from rfl)) (by first | rfl | omega) ?_; simp only [zo]; go_big_quiet_on) | (refine zn (t := 95) rfl _ _ _ rfl (fun w hw => qj (z7 ry w hw) (show 0 < (e :: Y).length by simp) (show aT (e :: Y) 0 = e from rfl)) (by first | rfl | omega) ?_; simp only [zo]; go_big_quiet_on) | (refine zn (t := 123) rfl _ _ _ rfl (fun w hw => jA (z7 ry w hw) (show 0 < (e :: Y).length by simp) (show aT (e :: Y) 0 = e from rfl)) (by first | rfl | omega) ?_; simp only [zo]; go_big_quiet_on) | (go_big_quiet_op; first | go_big_quiet_on | go_big_quiet_call ((first | (go_at_call 102; exact zC (we d.x d.y e.x e.y 1 _ HO.out)))))))
     refine wpQuiet_nil ?_; intro wn za; have zf := B.size; have zg := za.size; replace B := B.trans (za.mono B.size); try replace od := od.below za
     try replace rx := rx.below za
     try replace ry := ry.below za
     go_upto_region 11 with fail
     refine wp_region_lit ?_; refine j4 5 ?_; repeat (first | go_big_quiet_skip | (go_big_quiet_want; first | ((first | refine zn (t := 95) rfl _ _ _ rfl (fun w hw => qj (z7 rx w hw) (show 0 < (d :: X).length by simp) (show aT (d :: X) 0 = d from rfl)) (by first | rfl | omega) ?_ | refine zn (t := 95) rfl _ _ _ rfl (fun w hw => qj (z7 ry w hw) (show 0 < (e :: Y).length by simp) (show aT (e :: Y) 0 = e from rfl)) (by first | rfl | omega) ?_ | refine qB ?_ | refine qC ?_); simp only [zo]; go_big_quiet_on) | (go_big_quiet_op; go_big_quiet_on)))
     refine wpQuiet_nil ?_
     (refine xI (E := psE) rfl _ rfl ((e.x, e.y)) rfl (by omega) (zY B ?_); clear B; intro b_s1 wn zb zd s1 za zf zk B; replace od := od.below (za.mono zb); (try have zh := rx.lt); (try replace rx := rx.below (za.mono zb)); (try have zh := ry.lt); (try replace ry := ry.below (za.mono zb)); simp only [zo])
     (at_builtin; refine jw rfl _ _ rfl _ _ rfl rfl od ((xp.one s1)) (by simp only [List.length_append, List.length_cons, List.length_nil]; omega) (by omega) ?_; intro v_od wn ht za; have zf := B.size; have hbz := za.size; replace B := B.trans (za.mono (by omega)); clear od; (try replace rx := rx.of_eq (za.block _ (by omega))); (try replace ry := ry.of_eq (za.block _ (by omega))); have od := ht; clear ht; obtain ⟨a_od, c_od, hv, hco⟩ := od.len; (try simp only [List.length_append, List.length_cons, List.length_nil, Nat.zero_add] at hv hco); subst hv; simp only [zo])
     refine zy 1 ?_; refine wpList_nil ?_; go_upto_region 12 with fail
     refine wp_region_lit ?_; refine zy 3 ?_; refine wpList_nil ?_; go_wp2; go_roundw
     case rel => exact ⟨d :: X, Y, O ++ [jc e], _, _, _, _, _, _, rfl, rfl, by rw [List.length_append]; rfl, rs1, rty, trivial, B, by rw [List.length_append]; exact od, by rw [List.append_assoc]; exact (congrArg (O ++ ·) HCH.out).symm.trans HST.out⟩
     case measure => simp [Kd]
    ·have HCH := Lib.hid (xN d X e Y)
     rw [if_neg (by rw [o1]; decide), if_neg (by rw [o3]; decide)] at HCH
     have HO := Lib.hid o2; clear o1 o2 o3; go_upto_region 3 with fail
     refine wp_region_lit ?_; refine zy 1 ?_; refine zw (by first | rfl | simp [Region.wanted, yielded]) rfl Tryz.underlying62 rfl ?_; simp only [zo]; refine zy 3 ?_; refine qP ?hs17_5 ?_
     case hs17_5 => kernel_rfl
     simp only [zo]; refine zy 2 ?_; refine wpList_nil ?_; go_wp2; refine zA (by kernel_rfl) (by kernel_rfl) ?_; repeat (first | go_big_quiet_skip | (go_big_quiet_want; first | (refine zn (t := 95) rfl _ _ _ rfl (fun w hw => qj (z7 rx w hw) (show 0 < (d :: X).length by simp) (show aT (d :: X) 0 = d from rfl)) (by first | rfl | omega) ?_; simp only [zo]; go_big_quiet_on) | (refine zn (t := 123) rfl _ _ _ rfl (fun w hw => jA (z7 rx w hw) (show 0 < (d :: X).length by simp) (show aT (d :: X) 0 = d from rfl)) (by first | rfl | omega) ?_; simp only [zo]; go_big_quiet_on) | (refine zn (t := 95) rfl _ _ _ rfl (fun w hw => qj (z7 ry w hw) (show 0 < (e :: Y).length by simp) (show aT (e :: Y) 0 = e from rfl)) (by first | rfl | omega) ?_; simp only [zo]; go_big_quiet_on) | (refine zn (t := 123) rfl _ _ _ rfl (fun w hw => jA (z7 ry w hw) (show 0 < (e :: Y).length by simp) (show aT (e :: Y) 0 = e from rfl)) (by first | rfl | omega) ?_; simp only [zo]; go_big_quiet_on) | (go_big_quiet_op; first | go_big_quiet_on | go_big_quiet_call ((first | (go_at_call 102; exact zC (we d.x d.y e.x e.y 0 _ HO.out)))))))
     refine wpQuiet_nil ?_; intro wn za; have zf := B.size; have zg := za.size; replace B := B.trans (za.mono B.size); try replace od := od.below za
     try replace rx := rx.below za
     try replace ry := ry.below za
     go_wp2; refine zA (by kernel_rfl) (by kernel_rfl) ?_; repeat (first | go_big_quiet_skip | (go_big_quiet_want; first | (refine zn (t := 95) rfl _ _ _ rfl (fun w hw => qj (z7 rx w hw) (show 0 < (d :: X).length by simp) (show aT (d :: X) 0 = d from rfl)) (by first | rfl | omega) ?_; simp only [zo]; go_big_quiet_on) | (refine zn (t := 123) rfl _ _ _ rfl (fun w hw => jA (z7 rx w hw) (show 0 < (d :: X).length by simp) (show aT (d :: X) 0 = d from rfl)) (by first | rfl | omega) ?_; simp only [zo]; go_big_quiet_on) | (refine zn (t := 95) rfl _ _ _ rfl (fun w hw => qj (z7 ry w hw) (show 0 < (e :: Y).length by simp) (show aT (e :: Y) 0 = e from rfl)) (by first | rfl | omega) ?_; simp only [zo]; go_big_quiet_on) | (refine zn (t := 123) rfl _ _ _ rfl (fun w hw => jA (z7 ry w hw) (show 0 < (e :: Y).length by simp) (show aT (e :: Y) 0 = e from rfl)) (by first | rfl | omega) ?_; simp only [zo]; go_big_quiet_on) | (go_big_quiet_op; first | go_big_quiet_on | go_big_quiet_call ((first | (go_at_call 102; exact zC (we d.x d.y e.x e.y 0 _ HO.out)))))))
     refine wpQuiet_nil ?_; intro wn za; have zf := B.size; have zg := za.size; replace B := B.trans (za.mono B.size); try replace od := od.below za
     try replace rx := rx.below za
     try replace ry := ry.below za
     have hneq := fun w => Q7 d.t e.t w
     cases ht : kO d.t e.t with
     | true =>
      rw [ht] at hneq; rw [if_pos ht, List.nil_append] at HCH; clear ht; go_wp2; try have lx_od := od.lt
      try have lx_rx := rx.lt
      try have lx_ry := ry.lt
      refine zJ 9 [] (by kernel_rfl) (by kernel_rfl) (by kernel_rfl) ?_
      rotate_left 0
      simp only [jZ, Nat.reduceAdd]; refine ub 9 ?_; repeat (first | go_big_quiet_skip | (go_big_quiet_want; first | ((first | refine zn (t := 123) rfl _ _ _ rfl (fun w hw => jA (z7 rx w hw) (show 0 < (d :: X).length by simp) (show aT (d :: X) 0 = d from rfl)) (by first | rfl | omega) ?_ | refine zn (t := 123) rfl _ _ _ rfl (fun w hw => jA (z7 ry w hw) (show 0 < (e :: Y).length by simp) (show aT (e :: Y) 0 = e from rfl)) (by first | rfl | omega) ?_ | refine qB ?_ | refine qC ?_); simp only [zo]; go_big_quiet_on) | (go_big_quiet_op; go_big_quiet_on)))
      refine wpQuiet_nil ?_; refine qi ?_; intro wn za hE; have zf := B.size; have zg := za.size; replace B := B.trans (za.mono B.size)
      (try replace od := od.below za)
      (try replace rx := rx.below za)
      (try replace ry := ry.below za)
      clear hE; try simp only [List.drop_succ_cons, List.drop_zero]
      refine zL.normal ?_; go_wp2; try have lx_od := od.lt
      try have lx_rx := rx.lt
      try have lx_ry := ry.lt
      refine zJ 6 [] (by kernel_rfl) (by kernel_rfl) (by kernel_rfl) ?_
      rotate_left 0
      simp only [jZ, Nat.reduceAdd]; refine kX 6 ?_; refine qi ?_; intro wn za hE; have zf := B.size; have zg := za.size; replace B := B.trans (za.mono B.size)
      (try replace od := od.below za)
      (try replace rx := rx.below za)
      (try replace ry := ry.below za)
      clear hE; try simp only [List.drop_succ_cons, List.drop_zero]
      refine zL.normal ?_; go_wp2; go_roundw
      case rel => exact ⟨X, Y, O, _, _, _, _, _, _, rfl, rfl, rfl, rtx, rty, trivial, B, od, (congrArg (O ++ ·) HCH.out).symm.trans HST.out⟩
      case measure => simp [Kd]; omega
     | false =>
      rw [ht] at hneq; rw [if_neg (by rw [ht]; decide)] at HCH
      clear ht; go_wp2; try have lx_od := od.lt
      try have lx_rx := rx.lt
      try have lx_ry := ry.lt
      refine zJ 9 [] (by kernel_rfl) (by kernel_rfl) (by kernel_rfl) ?_
      rotate_left 0
      simp only [jZ, Nat.reduceAdd]; refine ub 9 ?_; repeat (first | go_big_quiet_skip | (go_big_quiet_want; first | ((first | refine zn (t := 123) rfl _ _ _ rfl (fun w hw => jA (z7 rx w hw) (show 0 < (d :: X).length by simp) (show aT (d :: X) 0 = d from rfl)) (by first | rfl | omega) ?_ | refine zn (t := 123) rfl _ _ _ rfl (fun w hw => jA (z7 ry w hw) (show 0 < (e :: Y).length by simp) (show aT (e :: Y) 0 = e from rfl)) (by first | rfl | omega) ?_ | refine qB ?_ | refine qC ?_); simp only [zo]; go_big_quiet_on) | (go_big_quiet_op; go_big_quiet_on)))
      refine wpQuiet_nil ?_; refine qi ?_; intro wn za hE; have zf := B.size; have zg := za.size; replace B := B.trans (za.mono B.size)
      (try replace od := od.below za)
      (try replace rx := rx.below za)
      (try replace ry := ry.below za)
      clear hE; try simp only [List.drop_succ_cons, List.drop_zero]
      refine zL.normal ?_; go_upto_region 5 with fail
      refine wp_region_lit ?_; refine j4 5 ?_; repeat (first | go_big_quiet_skip | (go_big_quiet_want; first | ((first | refine zn (t := 95) rfl _ _ _ rfl (fun w hw => qj (z7 rx w hw) (show 0 < (d :: X).length by simp) (show aT (d :: X) 0 = d from rfl)) (by first | rfl | omega) ?_ | refine zn (t := 95) rfl _ _ _ rfl (fun w hw => qj (z7 ry w hw) (show 0 < (e :: Y).length by simp) (show aT (e :: Y) 0 = e from rfl)) (by first | rfl | omega) ?_ | refine qB ?_ | refine qC ?_); simp only [zo]; go_big_quiet_on) | (go_big_quiet_op; go_big_quiet_on)))
      refine wpQuiet_nil ?_
      (refine xI (E := psE) rfl _ rfl ((d.x, d.y)) rfl (by omega) (zY B ?_); clear B; intro b_s1 wn zb zd s1 za zf zk B; replace od := od.below (za.mono zb); (try have zh := rx.lt); (try replace rx := rx.below (za.mono zb)); (try have zh := ry.lt); (try replace ry := ry.below (za.mono zb)); simp only [zo])
      (at_builtin; refine jw rfl _ _ rfl _ _ rfl rfl od ((xp.one s1)) (by simp only [List.length_append, List.length_cons, List.length_nil]; omega) (by omega) ?_; intro v_od wn ht za; have zf := B.size; have hbz := za.size; replace B := B.trans (za.mono (by omega)); clear od; (try replace rx := rx.of_eq (za.block _ (by omega))); (try replace ry := ry.of_eq (za.block _ (by omega))); have od := ht; clear ht; obtain ⟨a_od, c_od, hv, hco⟩ := od.len; (try simp only [List.length_append, List.length_cons, List.length_nil, Nat.zero_add] at hv hco); subst hv; simp only [zo])
      refine zy 1 ?_; refine wpList_nil ?_; go_wp2; try have lx_od := od.lt
      try have lx_rx := rx.lt
      try have lx_ry := ry.lt
      refine zJ 6 [] (by kernel_rfl) (by kernel_rfl) (by kernel_rfl) ?_
      rotate_left 0
      simp only [jZ, Nat.reduceAdd]; refine kX 6 ?_; refine qi ?_; intro wn za hE; have zf := B.size; have zg := za.size; replace B := B.trans (za.mono B.size)
      (try replace od := od.below za)
      clear hE; try simp only [List.drop_succ_cons, List.drop_zero]
      refine zL.normal ?_; go_wp2; go_roundw
      case rel => exact ⟨X, Y, O ++ [jc d], _, _, _, _, _, _, rfl, rfl, by rw [List.length_append]; rfl, rtx, rty, trivial, B, by rw [List.length_append]; exact od, by rw [List.append_assoc]; exact (congrArg (O ++ ·) HCH.out).symm.trans HST.out⟩
      case measure => simp [Kd]; omega
/- Contracts in the shape of chapter 14's laws: pixels by their parts, painting of made strokes. -/
theorem zbH (v : Value) (ls : List TA) (x y : Int) (p : Px) (w : World) (h : RS v ls w) (hn : ls.length ≤ maxLen) (hx : -9223372036854775808 ≤ x ∧ x ≤ 9223372036854775807) (hy : -9223372036854775808 ≤ y ∧ y ≤ 9223372036854775807) (e1 : xm ls x y = p) : Calls Tryz.prog 31 #[.agg #[v], .int .i64 x, .int .i64 y] w fun e w' => e = .returned (.agg #[.int .u8 p.r, .int .u8 p.g, .int .u8 p.b, .int .u8 p.a]) ∧ Below w.heap.size w w' := by
 have h0 := zbI v ls x y w h hn (us hx.1 hx.2) (us hy.1 hy.2)
 rw [e1] at h0
 exact h0
theorem VN {s : jd} (hc : s.col.ok) {ls : List TA} (ht : qN ls) {K : List TA} {E : Int} (e : jk s ls = (K, E)) : K.length ≤ maxLen ∧ z2 K = true ∧ qN K := by
 have h := wt hc ht (s := s)
 rw [e] at h
 have h1 : z2 K = true := h.1
 have h2 : qN K := h.2
 have := (j1.1 h1).1
 exact ⟨by unfold maxLen; omega, h1, h2⟩
theorem zcS (r g b a : Int) (w : World) : (binOp .neq 28 (.agg #[.int .u8 r, .int .u8 g, .int .u8 b, .int .u8 a]) (.agg #[.int .u8 r, .int .u8 g, .int .u8 b, .int .u8 a])).run Tryz.prog w = .ok (.bool false) w := by
 have := XX ⟨r, g, b, a⟩ ⟨r, g, b, a⟩ w
 rw [decide_eq_true rfl] at this
 exact this
theorem Yy (r : Rc) (b : Bool) (w : World) (e : qn r = b) : Calls Tryz.prog 45 #[.agg (jV r)] w fun e w' => e = .returned (.bool b) ∧ Below w.heap.size w w' := e ▸ xL r w
theorem YC (r s q : Rc) (w : World) (e : yf r s = q) : Calls Tryz.prog 46 #[.agg (jV r), .agg (jV s)] w fun e w' => e = .returned (.agg (jV q)) ∧ Below w.heap.size w w' := e ▸ ZL r s w
theorem Qz (v u : Value) (ls ks : List TA) (C : List (Int × Int)) (w : World) (h : RS v ls w) (h' : RS u ks w) (tk : qN ls) (tk' : qN ks) (hn : ls.length ≤ maxLen) (hn' : ks.length ≤ maxLen) (e : xt (qc ls) (qc ks) = C) : Calls Tryz.prog 44 #[.agg #[v], .agg #[u]] w fun e w' => ∃ a cp, e = .returned (.slice a C.length cp) ∧ xp psE (.slice a C.length cp) C w' ∧ Below w.heap.size w w' := e ▸ zan v u ls ks w h h' tk tk' hn hn'
theorem ze7 (x y : Int) (w : World) (hx : -100000 ≤ x ∧ x ≤ 100000) (hy : -100000 ≤ y ∧ y ≤ 100000) : Calls Tryz.prog 47 #[.agg #[.int .i64 x, .int .i64 y]] w fun e w' => e = .returned (.agg (jV (K8 (x, y)))) ∧ Below w.heap.size w w' := by
 have B := Below.refl w.heap.size w
 go_enter Tryz.func47, Tryz.ntmps47
 go_upto_region 0 with fail
 refine wp_region_lit ?_
 (refine zt (t := 95) rfl _ rfl _ rfl (zY B ?_); clear B; intro b_r1 wn zb zd r1 za zf zk B; simp only [zo])
 (refine zr (t := 38) rfl _ (zZ _ _ rfl) (zY B ?_); clear B; intro b_r2 wn zb zd r2 za zf zk B; (try have zh := r1.lt); (try replace r1 := r1.below (za.mono zb)); simp only [zo])
 refine wpList_nil ?_
 go_upto_region 1 with fail
 try have lx_r1 := r1.lt
 try have lx_r2 := r2.lt
 refine zJ 8 [] (by kernel_rfl) (by kernel_rfl) (by kernel_rfl) ?_
 rotate_left 0
 simp only [jZ, Nat.reduceAdd]
 refine kX 8 ?_
 refine qi ?_
 intro wn za hE
 have zf := B.size
 have zg := za.size
 replace B := B.trans (za.mono B.size)
 (try replace r2 := r2.below za)
 clear hE
 try simp only [List.drop_succ_cons, List.drop_zero]
 refine zL.normal ?_
 go_upto_region 2 with fail
 refine wp_region_lit ?_
 refine zy 6 ?_
 (refine qv rfl (.agg (jV (K8 (x, y)))) (by first | rfl | kernel_rfl | simp [go_sem, Act.eval]) ?_; simp only [zo])
 (refine zq (t := 38) rfl _ _ rfl _ rfl _ rfl r2 (by kernel_rfl) rfl (by simp [jV, Value.oneCell']) (qG B (by omega) ?_); clear r2 B; intro wn r2 ze zf zg B; simp only [zo])
 refine wpList_nil ?_
 first | (refine bodyPost_ret (zz (t := 38) rfl _ _ (b_r2) rfl r2 Tryz.isAgg38 (by kernel_rfl)) rfl ?_) | (go_step; refine bodyPost_ret (zz (t := 38) rfl _ _ (b_r2) rfl r2 Tryz.isAgg38 (by kernel_rfl)) rfl ?_) | (go_step; go_step; refine bodyPost_ret (zz (t := 38) rfl _ _ (b_r2) rfl r2 Tryz.isAgg38 (by kernel_rfl)) rfl ?_) | (go_step; go_step; go_step; refine bodyPost_ret (zz (t := 38) rfl _ _ (b_r2) rfl r2 Tryz.isAgg38 (by kernel_rfl)) rfl ?_) | (go_step; go_step; go_step; go_step; refine bodyPost_ret (zz (t := 38) rfl _ _ (b_r2) rfl r2 Tryz.isAgg38 (by kernel_rfl)) rfl ?_) | (go_step; go_step; go_step; go_step; go_step; refine bodyPost_ret (zz (t := 38) rfl _ _ (b_r2) rfl r2 Tryz.isAgg38 (by kernel_rfl)) rfl ?_)
 exact ⟨rfl, B⟩
set_option maxHeartbeats 8000000 in
theorem Qd (v0 : Value) (L : List Int) (v1 : Value) (M : List Int) (x0 y0 : Int) (w : World) (lm : xU w) (hL : xp inE v0 L w) (hLn : L.length ≤ 17592186044416) (hM : xp inE v1 M w) (hMn : M.length ≤ 17592186044416) : Calls Tryz.prog 12 #[v0, v1, .agg #[.int .i64 x0, .int .i64 y0]] w fun e w' => e = .returned (.bool true) ∧ Below w.heap.size w w' := by
 have B := Below.refl w.heap.size w
 have HL := Lib.hid hL
 have HM := Lib.hid hM
 clear hL hM
 obtain ⟨X, hX, X1, X2⟩ := zcP x0
 obtain ⟨Y, hY, Y1, Y2⟩ := zcP y0
 have n1 := Lib.hid (VG (Nat.le_trans (J5 L) (by omega)))
 have tk := Lib.hid (ZD L)
 have MN := Lib.hid (show (qo M).pts.length ≤ 17592186044416 from by rw [Kj]; have := Ki M; omega)
 have HK := Lib.hid (show jk (qo M) (jM L) = ((jk (qo M) (jM L)).1, 0) from Prod.ext rfl (Q5 rfl (uE M) (J4 L)).1)
 have OUT := Lib.hid (YQ L M (X - 30) (Y - 30))
 have MEET := Lib.hid (fun p => zat L M (p := p))
 have PA := VN (Qp M) tk.out HK.out
 have WIT := Lib.hid (fun p hp => YU (yX L) PA.2.1 p hp)
 have FI1 := xy (yX L)
 have FI2 := xy PA.2.1
 obtain ⟨K1, hK1⟩ : ∃ K, (jk (qo M) (jM L)).1 = K := ⟨_, rfl⟩
 rw [hK1] at HK OUT MEET PA WIT FI2
 obtain ⟨C, hC⟩ : ∃ C, xt (jM L) K1 = C := ⟨_, rfl⟩
 rw [hC] at MEET WIT
 have hCl : C.length ≤ 100000 := by
  rw [← hC]; have h1 := YT (jM L) K1; have h2 := J5 L; have h3 := (j1.1 PA.2.1).1; omega
 have HC := Lib.hid (show xt (qc (jM L)) (qc K1) = C from by rw [FI1, FI2]; exact hC)
 obtain ⟨q, hq⟩ : ∃ q, uQ (qo M) = q := ⟨_, rfl⟩
 rw [hq] at MEET OUT
 have HQ := Lib.hid hq
 have OK1 := Lib.hid (Qp M)
 have M1 := Lib.hid (fun w' (h : Below w.heap.size w w') => zaq v1 M w' (HM.out.below h) hMn)
 obtain ⟨S, hS⟩ : ∃ S, qo M = S := ⟨_, rfl⟩
 rw [hS] at MN HK OK1 M1 HQ
 have nK1 := Lib.hid PA.1
 have tK1 := Lib.hid PA.2.2
 clear hK1 hS PA HM hMn hC hq FI1 FI2
 go_enter Tryz.func12, Tryz.ntmps12
 go_upto_region 0 with fail
 refine wp_region_lit ?_
 try simp only [zM]
 (refine zt (t := 61) rfl _ rfl _ rfl (zY B ?_); clear B; intro b_r5 wn zb zd r5 za zf zk B; (try have zh := lm.lt); (try replace lm := lm.below (za.mono zb)); simp only [zo])
 refine zy 1 ?_
 refine wpList_nil ?_
 go_upto_region 1 with fail
 refine wp_region_lit ?_
 try simp only [zM]
 refine je (enters_of Tryz.func13 (by kernel_rfl) rfl) (c := zdo _ lm) (h := ?_)
 rintro e wn ⟨rfl, za⟩
 have zf := B.size
 have zg := za.size
 replace B := B.trans (za.mono B.size)
 (try replace lm := lm.below za)
 (try replace r5 := r5.below za)
 refine ⟨_, rfl, ?_⟩
 simp only [zo]
 refine zy 1 ?_
 refine wpList_nil ?_
 go_upto_region 2 with fail
 refine wp_region_lit ?_
 try simp only [zM]
 refine zy 1 ?_
 refine je (enters_of Tryz.func29 (by kernel_rfl) rfl) (c := zb4 _ L _ (HL.out.below B) hLn) (h := ?_)
 rintro e wn ⟨a1, c1, rfl, rs1, za⟩
 have zf := B.size
 have zg := za.size
 replace B := B.trans (za.mono B.size)
 (try replace lm := lm.below za)
 (try replace r5 := r5.below za)
 refine ⟨_, rfl, ?_⟩
 simp only [zo]
 obtain ⟨wK, hK⟩ : ∃ z, z = wn := ⟨_, rfl⟩
 subst hK
 have BG := B
 have hwsK := BG.size
 have B := Below.refl wK.heap.size wK
 have H_lm := Lib.hid lm
 have H_r5 := Lib.hid r5
 have H_rs1 := Lib.hid rs1
 try simp only [zM]
 (refine zr (t := 64) rfl _ (qA _ _ rfl) (zY B ?_); clear B; intro b_r8 wn zb zd r8 za zf zk B; simp only [zo])
 (refine zq (t := 64) rfl _ _ rfl _ rfl _ rfl r8 (by kernel_rfl) rfl (by simp [Value.oneCell']) (qG B (by omega) ?_); clear r8 B; intro wn r8 ze zf zg B; simp only [zo])
 refine wpList_nil ?_
 clear lm
 clear r5
 clear rs1
 have lm := by first | exact H_lm.out.below B | exact H_lm.out.of_eq (B.block _ H_lm.out.lt)
 have r5 := by first | exact H_r5.out.below B | exact H_r5.out.of_eq (B.block _ H_r5.out.lt)
 have rs1 := by first | exact H_rs1.out.below B | exact H_rs1.out.of_eq (B.block _ H_rs1.out.lt)
 clear H_lm
 clear H_r5
 clear H_rs1
 have B0 := BG.trans (B.mono hwsK)
 clear B BG hwsK
 have B := B0
 clear B0
 clear HL hLn
 go_upto_region 3 with fail
 refine wp_region_lit ?_
 try simp only [zM]
 refine zy 1 ?_
 refine je (enters_of Tryz.func15 (by kernel_rfl) rfl) (c := M1.out _ B) (h := ?_)
 rintro e wn ⟨a2, c2, rfl, od, za⟩
 have zf := B.size
 have zg := za.size
 replace B := B.trans (za.mono B.size)
 (try replace lm := lm.below za)
 (try replace r5 := r5.below za)
 (try replace rs1 := rs1.below za)
 (try replace r8 := r8.below za)
 refine ⟨_, rfl, ?_⟩
 simp only [zo]
 obtain ⟨wK, hK⟩ : ∃ z, z = wn := ⟨_, rfl⟩
 subst hK
 have BG := B
 have hwsK := BG.size
 have B := Below.refl wK.heap.size wK
 have H_lm := Lib.hid lm
 have H_r5 := Lib.hid r5
 have H_rs1 := Lib.hid rs1
 have H_r8 := Lib.hid r8
 have H_od := Lib.hid od
 try simp only [zM]
 (refine zr (t := 30) rfl _ (qD _ _ rfl) (zY B ?_); clear B; intro b_r9 wn zb zd r9 za zf zk B; simp only [zo])
 (refine zq (t := 30) rfl _ _ rfl _ rfl _ rfl r9 (by kernel_rfl) rfl (by simp [jE, Value.oneCell']) (qG B (by omega) ?_); clear r9 B; intro wn r9 ze zf zg B; simp only [zo])
 refine wpList_nil ?_
 clear lm
 clear r5
 clear rs1
 clear r8
 clear od
 have lm := by first | exact H_lm.out.below B | exact H_lm.out.of_eq (B.block _ H_lm.out.lt)
 have r5 := by first | exact H_r5.out.below B | exact H_r5.out.of_eq (B.block _ H_r5.out.lt)
 have rs1 := by first | exact H_rs1.out.below B | exact H_rs1.out.of_eq (B.block _ H_rs1.out.lt)
 have r8 := by first | exact H_r8.out.below B | exact H_r8.out.of_eq (B.block _ H_r8.out.lt)
 have od := by first | exact H_od.out.below B | exact H_od.out.of_eq (B.block _ H_od.out.lt)
 clear H_lm
 clear H_r5
 clear H_rs1
 clear H_r8
 clear H_od
 have B0 := BG.trans (B.mono hwsK)
 clear B BG hwsK
 have B := B0
 clear B0
 clear M1
 go_upto_region 4 with fail
 refine wp_region_lit ?_
 try simp only [zM]
 refine zy 2 ?_
 refine je (enters_of Tryz.func30 (by kernel_rfl) rfl) (c := YE _ _ S (jM L) K1 0 _ lm rs1 tk.out n1.out od.rs MN.out OK1.out HK.out) (h := ?_)
 rintro e wn ⟨a3, c3, rfl, rs2, za⟩
 have zf := B.size
 have zg := za.size
 replace B := B.trans (za.mono B.size)
 (try replace lm := lm.below za)
 (try replace r5 := r5.below za)
 (try replace rs1 := rs1.below za)
 (try replace r8 := r8.below za)
 (try replace od := od.below za)
 (try replace r9 := r9.below za)
 refine ⟨_, rfl, ?_⟩
 simp only [zo]
 refine zy 3 ?_
 obtain ⟨wK, hK⟩ : ∃ z, z = wn := ⟨_, rfl⟩
 subst hK
 have BG := B
 have hwsK := BG.size
 have B := Below.refl wK.heap.size wK
 have H_lm := Lib.hid lm
 have H_r5 := Lib.hid r5
 have H_rs1 := Lib.hid rs1
 have H_r8 := Lib.hid r8
 have H_od := Lib.hid od
 have H_r9 := Lib.hid r9
 have H_rs2 := Lib.hid rs2
 try simp only [zM]
 (refine zr (t := 64) rfl _ (qA _ _ rfl) (zY B ?_); clear B; intro b_r10 wn zb zd r10 za zf zk B; simp only [zo])
 (refine zq (t := 64) rfl _ _ rfl _ rfl _ rfl r10 (by kernel_rfl) rfl (by simp [Value.oneCell']) (qG B (by omega) ?_); clear r10 B; intro wn r10 ze zf zg B; simp only [zo])
 refine zy 1 ?_
 refine wpList_nil ?_
 clear lm
 clear r5
 clear rs1
 clear r8
 clear od
 clear r9
 clear rs2
 have lm := by first | exact H_lm.out.below B | exact H_lm.out.of_eq (B.block _ H_lm.out.lt)
 have r5 := by first | exact H_r5.out.below B | exact H_r5.out.of_eq (B.block _ H_r5.out.lt)
 have rs1 := by first | exact H_rs1.out.below B | exact H_rs1.out.of_eq (B.block _ H_rs1.out.lt)
 have r8 := by first | exact H_r8.out.below B | exact H_r8.out.of_eq (B.block _ H_r8.out.lt)
 have od := by first | exact H_od.out.below B | exact H_od.out.of_eq (B.block _ H_od.out.lt)
 have r9 := by first | exact H_r9.out.below B | exact H_r9.out.of_eq (B.block _ H_r9.out.lt)
 have rs2 := by first | exact H_rs2.out.below B | exact H_rs2.out.of_eq (B.block _ H_rs2.out.lt)
 clear H_lm
 clear H_r5
 clear H_rs1
 clear H_r8
 clear H_od
 clear H_r9
 clear H_rs2
 have B0 := BG.trans (B.mono hwsK)
 clear B BG hwsK
 have B := B0
 clear B0
 go_upto_region 5 with fail
 refine wp_region_lit ?_
 try simp only [zM]
 refine zy 1 ?_
 refine je (enters_of Tryz.func21 (by kernel_rfl) rfl) (c := Yv _ S q _ lm od.rs MN.out HQ.out) (h := ?_)
 rintro e wn ⟨rfl, za⟩
 have zf := B.size
 have zg := za.size
 replace B := B.trans (za.mono B.size)
 (try replace lm := lm.below za)
 (try replace r5 := r5.below za)
 (try replace rs1 := rs1.below za)
 (try replace r8 := r8.below za)
 (try replace od := od.below za)
 (try replace r9 := r9.below za)
 (try replace rs2 := rs2.below za)
 (try replace r10 := r10.below za)
 refine ⟨_, rfl, ?_⟩
 simp only [zo]
 obtain ⟨wK, hK⟩ : ∃ z, z = wn := ⟨_, rfl⟩
 subst hK
 have BG := B
 have hwsK := BG.size
 have B := Below.refl wK.heap.size wK
 have H_lm := Lib.hid lm
 have H_r5 := Lib.hid r5
 have H_rs1 := Lib.hid rs1
 have H_r8 := Lib.hid r8
 have H_od := Lib.hid od
 have H_r9 := Lib.hid r9
 have H_rs2 := Lib.hid rs2
 have H_r10 := Lib.hid r10
 try simp only [zM]
 (refine zr (t := 38) rfl _ (zZ _ _ rfl) (zY B ?_); clear B; intro b_r12 wn zb zd r12 za zf zk B; simp only [zo])
 (refine zq (t := 38) rfl _ _ rfl _ rfl _ rfl r12 (by kernel_rfl) rfl (by simp [jV, Value.oneCell']) (qG B (by omega) ?_); clear r12 B; intro wn r12 ze zf zg B; simp only [zo])
 refine wpList_nil ?_
 clear lm
 clear r5
 clear rs1
 clear r8
 clear od
 clear r9
 clear rs2
 clear r10
 have lm := by first | exact H_lm.out.below B | exact H_lm.out.of_eq (B.block _ H_lm.out.lt)
 have r5 := by first | exact H_r5.out.below B | exact H_r5.out.of_eq (B.block _ H_r5.out.lt)
 have rs1 := by first | exact H_rs1.out.below B | exact H_rs1.out.of_eq (B.block _ H_rs1.out.lt)
 have r8 := by first | exact H_r8.out.below B | exact H_r8.out.of_eq (B.block _ H_r8.out.lt)
 have od := by first | exact H_od.out.below B | exact H_od.out.of_eq (B.block _ H_od.out.lt)
 have r9 := by first | exact H_r9.out.below B | exact H_r9.out.of_eq (B.block _ H_r9.out.lt)
 have rs2 := by first | exact H_rs2.out.below B | exact H_rs2.out.of_eq (B.block _ H_rs2.out.lt)
 have r10 := by first | exact H_r10.out.below B | exact H_r10.out.of_eq (B.block _ H_r10.out.lt)
 clear H_lm
 clear H_r5
 clear H_rs1
 clear H_r8
 clear H_od
 clear H_r9
 clear H_rs2
 clear H_r10
 have B0 := BG.trans (B.mono hwsK)
 clear B BG hwsK
 have B := B0
 clear B0
 replace r12 : zK 38 _ b_r12 (jV q) := r12
 clear r9 od lm
 go_upto_region 6 with fail
 refine wp_region_lit ?_
 try simp only [zM]
 refine zy 5 ?_
 refine wpList_nil ?_
 go_upto_region 7 with fail
 refine wp_region_lit ?_
 try simp only [zM]
 refine zy 5 ?_
 refine wpList_nil ?_
 clear r5 hX hY
 obtain ⟨⟨pr, pg, pb, pa⟩, hp⟩ : ∃ p, xm (jM L) (X - 30) (Y - 30) = p := ⟨_, rfl⟩
 rw [hp] at OUT
 have HP := Lib.hid hp
 have hq := zcS pr pg pb pa
 clear hp
 go_upto_region 8 with fail
 cases hh : qU q (X - 30) (Y - 30) with
 | false =>
  have HG := Lib.hid (OUT.out hh); have HH := Lib.hid hh; clear hh; try simp only [zM]
  try have lx_rs1 := rs1.lt
  try have lx_r8 := r8.lt
  try have lx_rs2 := rs2.lt
  try have lx_r10 := r10.lt
  try have lx_r12 := r12.lt
  refine zJ 17 [(4, zN ?v1_4), (10, zN ?v1_10), (14, zN ?v1_14)] (by kernel_rfl) (by kernel_rfl) (by kernel_rfl) ?_
  rotate_left 3
  simp only [jZ, Nat.reduceAdd]; refine kX 4 ?_
  refine zD (by rfl) (by first | rfl | simp [Region.wanted, yielded]) ?_ ?_
  ·intro wn za hE Kx hKx
   have zf := B.size; have zg := za.size; replace B := B.trans (za.mono B.size)
   (try replace rs1 := rs1.below za)
   (try replace r8 := r8.below za)
   (try replace rs2 := rs2.below za)
   (try replace r10 := r10.below za)
   (try replace r12 := r12.below za)
   refine zP rfl (enters_of Tryz.func25 (by kernel_rfl) rfl) (by simp only [Act.eval, qI]; rfl) ?_
   refine (Qf q (X - 30) (Y - 30) false wn HH.out).mono ?_; rintro e wm ⟨rfl, zl⟩; refine ⟨_, rfl, ?_⟩; have hz := hKx () wm trivial zl
   dsimp only [zN] at hz
   exact hz
  rintro ⟨⟩
  dsimp only [zN]
  simp only [zo]; refine kX 5 ?_
  refine zD (by rfl) ?hw1_10 ?_ ?_
  case hw1_10 => kernel_rfl
  ·intro wn za hE Kx hKx
   have zf := B.size; have zg := za.size; replace B := B.trans (za.mono B.size)
   (try replace rs1 := rs1.below za)
   (try replace r8 := r8.below za)
   (try replace rs2 := rs2.below za)
   (try replace r10 := r10.below za)
   (try replace r12 := r12.below za)
   refine zP rfl (enters_of Tryz.func31 (by kernel_rfl) rfl) (by simp only [Act.eval, qI]; rfl) ?_
   refine (zbH _ K1 (X - 30) (Y - 30) ⟨pr, pg, pb, pa⟩ wn rs2 nK1.out (by omega) (by omega) HG.out).mono ?_; rintro e wm ⟨rfl, zl⟩; refine ⟨_, rfl, ?_⟩; have hz := hKx () wm trivial zl
   dsimp only [zN] at hz
   exact hz
  rintro ⟨⟩
  dsimp only [zN]
  simp only [zo]; refine kX 3 ?_
  refine zD (by rfl) ?hw1_14 ?_ ?_
  case hw1_14 => kernel_rfl
  ·intro wn za hE Kx hKx
   have zf := B.size; have zg := za.size; replace B := B.trans (za.mono B.size)
   (try replace rs1 := rs1.below za)
   (try replace r8 := r8.below za)
   (try replace rs2 := rs2.below za)
   (try replace r10 := r10.below za)
   (try replace r12 := r12.below za)
   refine zP rfl (enters_of Tryz.func31 (by kernel_rfl) rfl) (by simp only [Act.eval, qI]; rfl) ?_
   refine (zbH _ (jM L) (X - 30) (Y - 30) ⟨pr, pg, pb, pa⟩ wn rs1 n1.out (by omega) (by omega) HP.out).mono ?_; rintro e wm ⟨rfl, zl⟩; refine ⟨_, rfl, ?_⟩; have hz := hKx () wm trivial zl
   dsimp only [zN] at hz
   exact hz
  rintro ⟨⟩
  dsimp only [zN]
  simp only [zo]; refine kX 2 ?_; refine qi ?_; intro wn za hE; have zf := B.size; have zg := za.size; replace B := B.trans (za.mono B.size)
  (try replace rs1 := rs1.below za)
  (try replace r8 := r8.below za)
  (try replace rs2 := rs2.below za)
  (try replace r10 := r10.below za)
  (try replace r12 := r12.below za)
  clear hE; try simp only [List.drop_succ_cons, List.drop_zero]
  refine zL.normal ?_; clear hq; go_upto_region 10 with fail
  refine wp_region_lit ?_; try simp only [zM]
  refine zy 2 ?_
  refine je (enters_of Tryz.func44 (by kernel_rfl) rfl) (c := Qz _ _ (jM L) K1 C _ rs1 rs2 tk.out tK1.out n1.out nK1.out HC.out) (h := ?_); rintro e wn ⟨ac, cc, rfl, rd, za⟩; have zf := B.size; have zg := za.size; replace B := B.trans (za.mono B.size)
  (try replace rs1 := rs1.below za)
  (try replace r8 := r8.below za)
  (try replace rs2 := rs2.below za)
  (try replace r10 := r10.below za)
  (try replace r12 := r12.below za)
  refine ⟨_, rfl, ?_⟩; simp only [zo]; refine zy 1 ?_; refine wpList_nil ?_; clear rs1 rs2 r8 r10; go_upto_region 11 with fail
  refine wp_region_lit ?_; try simp only [zM]
  refine zy 1 ?_; refine wpList_nil ?_; go_wp2; go_loopw [16] (fun iv wr => ∃ k : Nat, k ≤ C.length ∧ iv = .int .i64 (k : Int) ∧ Below w.heap.size w wr ∧ zK 38 wr b_r12 (jV q) ∧ xp psE (.slice ac C.length cc) C wr) (fun iv _ => (C.length - intOf iv).toNat)
  case atStart => exact ⟨0, by omega, rfl, B, r12, rd⟩
  case round =>
   clear B r12 rd; obtain ⟨k, hk, rfl, B, r12, rd⟩ := hrel; by_cases hkl : k < C.length
   ·have q1 : decide ((k : Int) < (C.length : Int)) = true := decide_eq_true (by omega)
    have q2 : decide (k < C.length) = true := decide_eq_true hkl; have HKL := Lib.hid hkl; obtain ⟨g, o, rfl, pc⟩ := rd.at (by omega); obtain ⟨⟨x, y⟩, hat⟩ : ∃ p, C[k]? = some p := ⟨_, List.getElem?_eq_getElem hkl⟩; have HME := Lib.hid (MEET.out (x, y) (List.mem_of_getElem? hat)); have hwi : -8192 ≤ x ∧ x ≤ 8191 ∧ -8192 ≤ y ∧ y ≤ 8191 := of_decide_eq_true (show z8 x y = true from WIT.out (x, y) (List.mem_of_getElem? hat)); go_upto_region 12 with fail
    refine wp_region_lit ?_; try simp only [zM]
    refine zy 2 ?_; refine zw (by first | rfl | simp [Region.wanted, yielded]) rfl Tryz.underlying90 rfl ?_; simp only [zo]; refine zy 1 ?_; refine wpList_nil ?_; go_upto_region 14 with fail
    try simp only [zM]
    try have lx_rd := rd.lt
    try have lx_r12 := r12.lt
    try have lx_pc := pc.lt
    refine zJ 8 [(4, zN ?v2_4), (6, zN ?v2_6), (7, zN ?v2_7)] (by kernel_rfl) (by kernel_rfl) (by kernel_rfl) ?_
    rotate_left 3
    simp only [jZ, Nat.reduceAdd]; refine ub 4 ?_; repeat (first | go_big_quiet_skip | (go_big_quiet_want; first | ((first | refine zn (t := 95) rfl _ _ _ rfl (fun w hw => (jX pc w hw).load Tryz.isAgg95 hat) (by first | rfl | omega) ?_ | refine qB ?_ | refine qC ?_); simp only [zo]; go_big_quiet_on) | (go_big_quiet_op; go_big_quiet_on)))
    refine wpQuiet_nil ?_; refine zD (by rfl) (by first | rfl | simp [Region.wanted, yielded]) ?_ ?_
    ·intro wn za hE Kx hKx
     have zf := B.size; have zg := za.size; replace B := B.trans (za.mono B.size)
     (try replace rd := rd.below za)
     (try replace r12 := r12.below za)
     (try replace pc := pc.below za)
     refine zP rfl (enters_of Tryz.func47 (by kernel_rfl) rfl) (by simp only [Act.eval, qI]; rfl) ?_
     refine (ze7 x y wn (by omega) (by omega)).mono ?_; rintro e wm ⟨rfl, zl⟩; refine ⟨_, rfl, ?_⟩; have hz := hKx () wm trivial zl
     dsimp only [zN] at hz
     exact hz
    rintro ⟨⟩
    dsimp only [zN]
    simp only [zo]; refine kX 1 ?_
    refine zD (by rfl) (by first | rfl | simp [Region.wanted, yielded]) ?_ ?_
    ·intro wn za hE Kx hKx
     have zf := B.size; have zg := za.size; replace B := B.trans (za.mono B.size)
     (try replace rd := rd.below za)
     (try replace r12 := r12.below za)
     (try replace pc := pc.below za)
     refine zP rfl (enters_of Tryz.func46 (by kernel_rfl) rfl) (by simp only [Act.eval, qI]; rfl) ?_
     refine (YC (K8 (x, y)) q _ wn rfl).mono ?_; rintro e wm ⟨rfl, zl⟩; refine ⟨_, rfl, ?_⟩; have hz := hKx () wm trivial zl
     dsimp only [zN] at hz
     exact hz
    rintro ⟨⟩
    dsimp only [zN]
    simp only [zo]; refine zD (by rfl) (by first | rfl | simp [Region.wanted, yielded]) ?_ ?_
    ·intro wn za hE Kx hKx
     have zf := B.size; have zg := za.size; replace B := B.trans (za.mono B.size)
     (try replace rd := rd.below za)
     (try replace r12 := r12.below za)
     (try replace pc := pc.below za)
     refine zP rfl (enters_of Tryz.func45 (by kernel_rfl) rfl) (by simp only [Act.eval, qI]; rfl) ?_
     refine (Yy _ false wn HME.out).mono ?_; rintro e wm ⟨rfl, zl⟩; refine ⟨_, rfl, ?_⟩; have hz := hKx () wm trivial zl
     dsimp only [zN] at hz
     exact hz
    rintro ⟨⟩
    dsimp only [zN]
    simp only [zo]; refine qi ?_; intro wn za hE; have zf := B.size; have zg := za.size; replace B := B.trans (za.mono B.size)
    (try replace rd := rd.below za)
    (try replace r12 := r12.below za)
    (try replace pc := pc.below za)
    clear hE; try simp only [List.drop_succ_cons, List.drop_zero]
    refine zL.normal ?_; go_upto_region 13 with fail
    refine wp_region_lit ?_; try simp only [zM]
    refine zy 3 ?_; refine wpList_nil ?_; go_wp2; go_roundw
    case rel => exact ⟨k + 1, by have := HKL.out; omega, by go_num, B, r12, rd⟩
    case measure => have := HKL.out; simp [intOf]; omega
   ·have q1 : decide ((k : Int) < (C.length : Int)) = false := decide_eq_false (by omega)
    have q2 : decide (k < C.length) = false := decide_eq_false hkl; go_upto_region 12 with fail
    refine wp_region_lit ?_; try simp only [zM]
    refine zy 2 ?_; refine zw (by first | rfl | simp [Region.wanted, yielded]) rfl Tryz.underlying90 rfl ?_; simp only [zo]; refine zy 1 ?_; refine wpList_nil ?_; go_upto_region 16 with fail
    refine wp_region_lit ?_; try simp only [zM]
    refine zy 6 ?_; refine wpList_nil ?_; go_wp2; go_ret; exact ⟨rfl, B⟩
 | true =>
  have HH := Lib.hid hh; clear hh; try simp only [zM]
  try have lx_rs1 := rs1.lt
  try have lx_r8 := r8.lt
  try have lx_rs2 := rs2.lt
  try have lx_r10 := r10.lt
  try have lx_r12 := r12.lt
  refine zJ 17 [(4, zN ?v3_4)] (by kernel_rfl) (by kernel_rfl) (by kernel_rfl) ?_
  rotate_left 1
  simp only [jZ, Nat.reduceAdd]; refine kX 4 ?_
  refine zD (by rfl) (by first | rfl | simp [Region.wanted, yielded]) ?_ ?_
  ·intro wn za hE Kx hKx
   have zf := B.size; have zg := za.size; replace B := B.trans (za.mono B.size)
   (try replace rs1 := rs1.below za)
   (try replace r8 := r8.below za)
   (try replace rs2 := rs2.below za)
   (try replace r10 := r10.below za)
   (try replace r12 := r12.below za)
   refine zP rfl (enters_of Tryz.func25 (by kernel_rfl) rfl) (by simp only [Act.eval, qI]; rfl) ?_
   refine (Qf q (X - 30) (Y - 30) true wn HH.out).mono ?_; rintro e wm ⟨rfl, zl⟩; refine ⟨_, rfl, ?_⟩; have hz := hKx () wm trivial zl
   dsimp only [zN] at hz
   exact hz
  rintro ⟨⟩
  dsimp only [zN]
  simp only [zo]; refine kX 5 ?_
  refine YtepelndbbhdofaaGreatDoor.w9 ?hw3_10 ?_
  case hw3_10 => kernel_rfl
  simp only [zo]; refine kX 3 ?_
  refine YtepelndbbhdofaaGreatDoor.w9 ?hw3_14 ?_
  case hw3_14 => kernel_rfl
  simp only [zo]; refine kX 2 ?_; refine qi ?_; intro wn za hE; have zf := B.size; have zg := za.size; replace B := B.trans (za.mono B.size)
  (try replace rs1 := rs1.below za)
  (try replace r8 := r8.below za)
  (try replace rs2 := rs2.below za)
  (try replace r10 := r10.below za)
  (try replace r12 := r12.below za)
  clear hE; try simp only [List.drop_succ_cons, List.drop_zero]
  refine zL.normal ?_; clear hq; go_upto_region 10 with fail
  refine wp_region_lit ?_; try simp only [zM]
  refine zy 2 ?_
  refine je (enters_of Tryz.func44 (by kernel_rfl) rfl) (c := Qz _ _ (jM L) K1 C _ rs1 rs2 tk.out tK1.out n1.out nK1.out HC.out) (h := ?_); rintro e wn ⟨ac, cc, rfl, rd, za⟩; have zf := B.size; have zg := za.size; replace B := B.trans (za.mono B.size)
  (try replace rs1 := rs1.below za)
  (try replace r8 := r8.below za)
  (try replace rs2 := rs2.below za)
  (try replace r10 := r10.below za)
  (try replace r12 := r12.below za)
  refine ⟨_, rfl, ?_⟩; simp only [zo]; refine zy 1 ?_; refine wpList_nil ?_; clear rs1 rs2 r8 r10; go_upto_region 11 with fail
  refine wp_region_lit ?_; try simp only [zM]
  refine zy 1 ?_; refine wpList_nil ?_; go_wp2; go_loopw [16] (fun iv wr => ∃ k : Nat, k ≤ C.length ∧ iv = .int .i64 (k : Int) ∧ Below w.heap.size w wr ∧ zK 38 wr b_r12 (jV q) ∧ xp psE (.slice ac C.length cc) C wr) (fun iv _ => (C.length - intOf iv).toNat)
  case atStart => exact ⟨0, by omega, rfl, B, r12, rd⟩
  case round =>
   clear B r12 rd; obtain ⟨k, hk, rfl, B, r12, rd⟩ := hrel; by_cases hkl : k < C.length
   ·have q1 : decide ((k : Int) < (C.length : Int)) = true := decide_eq_true (by omega)
    have q2 : decide (k < C.length) = true := decide_eq_true hkl; have HKL := Lib.hid hkl; obtain ⟨g, o, rfl, pc⟩ := rd.at (by omega); obtain ⟨⟨x, y⟩, hat⟩ : ∃ p, C[k]? = some p := ⟨_, List.getElem?_eq_getElem hkl⟩; have HME := Lib.hid (MEET.out (x, y) (List.mem_of_getElem? hat)); have hwi : -8192 ≤ x ∧ x ≤ 8191 ∧ -8192 ≤ y ∧ y ≤ 8191 := of_decide_eq_true (show z8 x y = true from WIT.out (x, y) (List.mem_of_getElem? hat)); go_upto_region 12 with fail
    refine wp_region_lit ?_; try simp only [zM]
    refine zy 2 ?_; refine zw (by first | rfl | simp [Region.wanted, yielded]) rfl Tryz.underlying90 rfl ?_; simp only [zo]; refine zy 1 ?_; refine wpList_nil ?_; go_upto_region 14 with fail
    try simp only [zM]
    try have lx_rd := rd.lt
    try have lx_r12 := r12.lt
    try have lx_pc := pc.lt
    refine zJ 8 [(4, zN ?v4_4), (6, zN ?v4_6), (7, zN ?v4_7)] (by kernel_rfl) (by kernel_rfl) (by kernel_rfl) ?_
    rotate_left 3
    simp only [jZ, Nat.reduceAdd]; refine ub 4 ?_; repeat (first | go_big_quiet_skip | (go_big_quiet_want; first | ((first | refine zn (t := 95) rfl _ _ _ rfl (fun w hw => (jX pc w hw).load Tryz.isAgg95 hat) (by first | rfl | omega) ?_ | refine qB ?_ | refine qC ?_); simp only [zo]; go_big_quiet_on) | (go_big_quiet_op; go_big_quiet_on)))
    refine wpQuiet_nil ?_; refine zD (by rfl) (by first | rfl | simp [Region.wanted, yielded]) ?_ ?_
    ·intro wn za hE Kx hKx
     have zf := B.size; have zg := za.size; replace B := B.trans (za.mono B.size)
     (try replace rd := rd.below za)
     (try replace r12 := r12.below za)
     refine zP rfl (enters_of Tryz.func47 (by kernel_rfl) rfl) (by simp only [Act.eval, qI]; rfl) ?_
     refine (ze7 x y wn (by omega) (by omega)).mono ?_; rintro e wm ⟨rfl, zl⟩; refine ⟨_, rfl, ?_⟩; have hz := hKx () wm trivial zl
     dsimp only [zN] at hz
     exact hz
    rintro ⟨⟩
    dsimp only [zN]
    simp only [zo]; refine kX 1 ?_
    refine zD (by rfl) (by first | rfl | simp [Region.wanted, yielded]) ?_ ?_
    ·intro wn za hE Kx hKx
     have zf := B.size; have zg := za.size; replace B := B.trans (za.mono B.size)
     (try replace rd := rd.below za)
     (try replace r12 := r12.below za)
     refine zP rfl (enters_of Tryz.func46 (by kernel_rfl) rfl) (by simp only [Act.eval, qI]; rfl) ?_
     refine (YC (K8 (x, y)) q _ wn rfl).mono ?_; rintro e wm ⟨rfl, zl⟩; refine ⟨_, rfl, ?_⟩; have hz := hKx () wm trivial zl
     dsimp only [zN] at hz
     exact hz
    rintro ⟨⟩
    dsimp only [zN]
    simp only [zo]; refine zD (by rfl) (by first | rfl | simp [Region.wanted, yielded]) ?_ ?_
    ·intro wn za hE Kx hKx
     have zf := B.size; have zg := za.size; replace B := B.trans (za.mono B.size)
     (try replace rd := rd.below za)
     (try replace r12 := r12.below za)
     refine zP rfl (enters_of Tryz.func45 (by kernel_rfl) rfl) (by simp only [Act.eval, qI]; rfl) ?_
     refine (Yy _ false wn HME.out).mono ?_; rintro e wm ⟨rfl, zl⟩; refine ⟨_, rfl, ?_⟩; have hz := hKx () wm trivial zl
     dsimp only [zN] at hz
     exact hz
    rintro ⟨⟩
    dsimp only [zN]
    simp only [zo]; refine qi ?_; intro wn za hE; have zf := B.size; have zg := za.size; replace B := B.trans (za.mono B.size)
    (try replace rd := rd.below za)
    (try replace r12 := r12.below za)
    clear hE; try simp only [List.drop_succ_cons, List.drop_zero]
    refine zL.normal ?_; go_upto_region 13 with fail
    refine wp_region_lit ?_; try simp only [zM]
    refine zy 3 ?_; refine wpList_nil ?_; go_wp2; go_roundw
    case rel => exact ⟨k + 1, by have := HKL.out; omega, by go_num, B, r12, rd⟩
    case measure => have := HKL.out; simp [intOf]; omega
   ·have q1 : decide ((k : Int) < (C.length : Int)) = false := decide_eq_false (by omega)
    have q2 : decide (k < C.length) = false := decide_eq_false hkl; go_upto_region 12 with fail
    refine wp_region_lit ?_; try simp only [zM]
    refine zy 2 ?_; refine zw (by first | rfl | simp [Region.wanted, yielded]) rfl Tryz.underlying90 rfl ?_; simp only [zo]; refine zy 1 ?_; refine wpList_nil ?_; go_upto_region 16 with fail
    refine wp_region_lit ?_; try simp only [zM]
    refine zy 6 ?_; refine wpList_nil ?_; go_wp2; go_ret; exact ⟨rfl, B⟩
namespace strokeArea
open Go.ChangeShapes Go.WideShapes Go.ChangeAt Go.RowKit
open Go.ChangeMaps (open_string shut_string)
set_option maxRecDepth 100000 in
theorem lifted (os : Os) (started : os.Started) (H : Type) (enc : TypeId × Value → H) :
  ReturnsInHanded {} Tryz.checked os 12 .any (fun w args => (Rows.strokeAreaSpec.pre enc Tryz.prog Tryz.f12 [] false w args ∧ laidMetH Tryz.prog Kc w) ∧ sizedMet enc Tryz.prog Tryz.f12 (OpenSpec.ofChange Rows.strokeAreaSpec) false w args) (Rows.strokeAreaSpec.post enc Tryz.prog Tryz.f12 false true false false) := by
 refine returnsInHanded_of_change_and (C := Tryz.checked) (X := fun w _ => laidMetH Tryz.prog Kc w) (fun _ _ _ hh h => h.of_heap hh) own started (by kernel_rfl) Tryz.func12
  (ChangeSpec.witness_shaped (enc := enc) (C := Tryz.checked) (os := os) (X := fun w _ => laidMetH Tryz.prog Kc w) false (World.doorLaid Tryz.prog 400 os) #[.slice none 0 0, .slice none 0 0, .agg #[.int .i64 0, .int .i64 0]] 8 rfl (World.shaped_of_RefB (by kernel_rfl) (by kernel_rfl)) (by kernel_rfl) (by kernel_rfl) (by kernel_rfl) (zcm os _)) ?_
 intro W base args ds gs before hval0 hW _ hsz0 hL _
 have hlm := Kf hL
 have hval : ∀ (j : Nat) t v, Tryz.f12.params[j]? = some t → args[j]? = some v → Value.okWide Tryz.prog W .any base t v := hval0
 have hW' := hW
 obtain ⟨p, q, hA0, hV, rfl, hfz, hnd⟩ := hW
 have hA : DataW.TrodAll enc Tryz.prog W 0 (fun _ => true) true Tryz.f12.params.toList args.toList ds p := hA0
 rw [Tryz.params12] at hA hval hsz0
 obtain ⟨v0, vs0, d0, ds0, p0, q0, hargs, rfl, rfl, h0, r0⟩ := trodAll_cons hA
 obtain ⟨v1, vs1, d1, ds1, p1, q1, rfl, rfl, rfl, h1, r1⟩ := trodAll_cons r0
 obtain ⟨v2, vs2, d2, ds2, p2, q2, rfl, rfl, rfl, h2, r2⟩ := trodAll_cons r1
 obtain ⟨rfl, rfl, rfl⟩ := trodAll_nil r2
 obtain rfl : args = #[v0, v1, v2] := by cases args; simp_all
 obtain ⟨rfl, rfl⟩ := trodVars_none hV
 have hwt0 : ∀ n ∈ DataW.weights Tryz.prog 22 d0, n ≤ reachBytes := fun n hn => by simpa using List.all_eq_true.1 hsz0 n (DataW.weights_mem_each (j := 0) rfl rfl n hn)
 have hwt1 : ∀ n ∈ DataW.weights Tryz.prog 22 d1, n ≤ reachBytes := fun n hn => by simpa using List.all_eq_true.1 hsz0 n (DataW.weights_mem_each (j := 1) rfl rfl n hn)
 have k0 := h0
 have lt0 : ∀ x ∈ p0, x.block < W.heap.size := by obtain ⟨m, hm⟩ := k0; exact DataW.trod_lt m _ _ _ hm
 have k1 := h1
 have lt1 : ∀ x ∈ p1, x.block < W.heap.size := by obtain ⟨m, hm⟩ := k1; exact DataW.trod_lt m _ _ _ hm
 have k2 := h2
 have lt2 : ∀ x ∈ p2, x.block < W.heap.size := by obtain ⟨m, hm⟩ := k2; exact DataW.trod_lt m _ _ _ hm
 obtain ⟨L0, hL0, hLn0⟩ := Q9 (hval 0 22 v0 rfl rfl) h0 hwt0
 obtain ⟨L1, hL1, hLn1⟩ := Q9 (hval 1 22 v1 rfl rfl) h1 hwt1
 obtain ⟨a2, b2, rfl, w2⟩ := zaT (hval 2 61 v2 rfl rfl) h2
 clear hA0 hval0
 refine (Qd v0 L0 v1 L1 a2 b2   W hlm hL0 hLn0 hL1 hLn1).mono fun e W' ⟨he, bel⟩ => ?_
 subst he
 exact ⟨_, rfl, _, _, _, [], _, [], hW', trodAll_mk1 (shut_bool Tryz.underlying4 _), (trodAll_cons_mk (Below.trod XQ (by kernel_rfl) (of_decide_eq_true (by kernel_rfl)) k0 bel lt0) (trodAll_cons_mk (Below.trod XQ (by kernel_rfl) (of_decide_eq_true (by kernel_rfl)) k1 bel lt1) (trodAll_cons_mk (Below.trod XQ (by kernel_rfl) (of_decide_eq_true (by kernel_rfl)) k2 bel lt2) trodAll_mk0))), rfl, bel.frame _, fun h => by cases h⟩
theorem over : Rows.strokeAreaRow.holds Tryz.pinned (OpenSpec.ofChange Rows.strokeAreaSpec) :=
 OpenClaim.holds_of_wide 12 Tryz.f12 rfl rfl rfl rfl rfl rfl rfl ⟨rfl, rfl, rfl, rfl, rfl⟩ rfl rfl rfl rfl rfl (by kernel_rfl) Tryz.func12 (by kernel_rfl)
  (of_decide_eq_true (by kernel_rfl)) (by unfold Func.isWrapper; first | (rw [if_pos (by decide +kernel)]; kernel_rfl) | (rw [if_neg (by decide +kernel)]; exact ⟨rfl, rfl⟩))
  (fun os started H enc _ => lifted os started H enc)
/-- THE STATEMENT: StrokeArea returns true for every input, and its arguments read as they did; what the listed variable holds is tied to the program's text. -/
theorem proved : Rows.StrokeAreaCardSaid := by
 unfold Rows.StrokeAreaCardSaid Rows.strokeAreaCard
 exact Claim7.holds_tied_plain_at .later [] [.data] true _ false over (fun _ h => by cases h) (by kernel_rfl) (fun _ h => by cases h) strokeArea_row_tie rfl ⟨rfl, rfl⟩ (by kernel_rfl) rfl
  (fun f fn hf hfn => by
   obtain rfl : f = 12 := Option.some.inj ((show Tryz.prog.funcNamed "gouache/gouachelaw14.StrokeArea" = some 12 by kernel_rfl).symm.trans hf) |>.symm
   obtain rfl : fn = Tryz.f12 := (Option.some.inj (Tryz.func12.symm.trans hfn)).symm; exact ⟨by kernel_rfl, fun j t ht => by
    rw [Tryz.params12] at ht; have hm : t ∈ [22, 22, 61] := by simpa using Array.mem_of_getElem? ht
    have hall : ([22, 22, 61].all fun u => !Tryz.prog.wantsStandIn u) = true := by kernel_rfl
    exact (show Tryz.prog.wantsStandIn t = false by simpa using List.all_eq_true.1 hall t hm)⟩)
  (by kernel_rfl)
end strokeArea
end Go.Proofs.YtepelndbbhdofaaGreatDoor
