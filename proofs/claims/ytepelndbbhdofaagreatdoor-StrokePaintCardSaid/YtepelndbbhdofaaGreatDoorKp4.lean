import Derived.Test.YtepelndbbhdofaaGreatDoorKp3
import Derived.Laws.IdiomStrings

namespace Go.Proofs.YtepelndbbhdofaaGreatDoor
open Go.RowKit Go.Shelf Pl Sha Go.Proofs.Tryz
set_option linter.unusedVariables false
set_option linter.unusedSimpArgs false
set_option maxRecDepth 20000
set_option maxHeartbeats 8000000
attribute [local go_sem] Oper.semAt_some
set_option linter.unusedVariables false
set_option linter.unusedSimpArgs false
set_option maxRecDepth 20000
theorem Ka (w : World) (o : Oper) (ho : o.op = .alloc 62) (ev : Operand → Value) : (execOp ev o).run Tryz.prog w = .ok (.value (.pointer (some ⟨w.heap.size, 0, none⟩))) (w.alloc (.cells #[.slice none 0 0] 62)) := by
 obtain ⟨d, p, t, ps, af, gd⟩ := o
 simp only at ho
 subst ho
 kernel_rfl
theorem yh {v : Value} {ops : Array Oper} {rest : List Oper} {o : Oper} {a : Act} {w : World} {Q : Exit → Act → World → Prop} (hg : o.guard = none) (x y : Operand) (ho : o.op = .store 62 x y) (b : Nat) (hx : a.eval x = .pointer (some ⟨b, 0, none⟩)) (a' : Option Addr) (n' c' : Nat) (hy : a.eval y = .slice a' n' c') (ht : zw 62 w b #[v])
  (h : ∀ w', zw 62 w' b #[.slice a' n' c'] → qY b w w' → w'.heap.size = w.heap.size → wpList Tryz.prog ops Q rest (a.put o.dst undef) w') : wpList Tryz.prog ops Q (o :: rest) a w := by
 have c0 := ht.cell 0 rfl
 have f0 := ht.frozen 0
 refine qj hg x y ho (w.setCell ⟨b, 0, none⟩ (.slice a' n' c')) ?_ (h _ ?_ ((qY.refl b w).setCell _) (by simp only [World.size_setCell]))
 ·rw [hx, hy]
  simp [go_sem, c0, f0]
 ·exact heap_setCell_same w b 0 #[v] _ _ ht
theorem qH {ops : Array Oper} {rest : List Oper} {o : Oper} {a : Act} {w : World} {Q : Exit → Act → World → Prop} (hg : o.guard = none) (v : Value) (hrun : (execOp a.eval o).run Tryz.prog w = .ok (.value v) w)
  (h : wpList Tryz.prog ops Q rest (a.put o.dst v) w) : wpList Tryz.prog ops Q (o :: rest) a w :=
 wpList_plain hg fun K hK => by
  unfold Oper.wp; rw [hrun]; exact hK _ _ h
theorem zdX (x y : Int) : Instr.fill (fun i => #[(0, 2), (2, 256)][i]?) zTA [(0, Ps.v x y)] = some (xE ⟨x, y, zT⟩) := by
 obtain ⟨r, hs, hr, e⟩ := YtepelndbbhdofaaGreatDoor.u6 (place := fun i => #[(0, 2), (2, 256)][i]?) (cells := zTA) (i := 0) (v := Ps.v x y) (rest := []) (off := 0) (sz := 2) rfl (by rw [ZW]; rfl) (by rw [jz]; omega)
 rw [e]
 show some r = _
 congr 1
 apply Array.ext_getElem?
 intro k
 rw [hr k, uc, ZW]
 by_cases h2 : k < 2
 ·rw [if_pos (by omega), if_pos h2, Nat.sub_zero]
 ·rw [if_neg (by omega), if_neg h2]
  have hz : zTA[k]? = (qU zT)[k - 2]? := by
   have e : zTA = #[.int .i64 0, .int .i64 0] ++ qU zT := by unfold zTA; kernel_rfl
   rw [e, Array.getElem?_append_right (by simp; omega)]
   rfl
  exact hz
theorem XE (w : World) (x y : Int) : (Instr.build 125 #[(0, Ps.v x y)]).run Tryz.prog w = .ok (.agg (xE ⟨x, y, zT⟩)) w :=
 run_build w 125 #[(0, Ps.v x y)] _ ((KZ _).trans (zdX x y))
theorem zy {o : Oper} {a : Act} {C : World → Prop} {K : Act → Prop} {p : Operand} (h : o.op = .build 125 #[(0, p)]) (x y : Int) (hp : a.eval p = .agg #[.int .i64 x, .int .i64 y]) (hk : K (a.put o.dst (.agg (xE ⟨x, y, zT⟩)))) : o.quiet Tryz.prog a C K :=
 ⟨_, fun w hw => by
  have r := XE w x y; simp only [Ps.v] at r; unfold Oper.quietAt execOp; simp only [h, List.map_toArray, List.map_cons, List.map_nil, hp, Sem.run_bind, r, Result.andThen_ok, Sem.run_pure]; exact ⟨rfl, rfl⟩, hk⟩
theorem Ww {b : Nat} {w w' : World} (h : qY b w w') (e : w'.heap[b]? = w.heap[b]?) : Below w.heap.size w w' :=
 ⟨h.os, h.tape, h.output, h.size, fun k hk => by
  by_cases hb : k = b
  ·subst hb; exact e
  ·exact h.block k hk hb⟩
theorem zH.ownP {g o : Nat} {ls : List Px} {A B : World} {row : Option Nat} (h : zH yq g o ls A) (hn : 0 < ls.length) (hg : A.grownBy B row) (hr : ∀ r, row = some r → ∃ o : Obj, A.heap[r]? = some o ∧ o.isCells = false) : zH yq g o ls B := by
 refine h.of_eq (hg.block g h.lt fun e => ?_)
 obtain ⟨x, hx, hc⟩ := hr g e.symm
 have h0 := h.2 0 _ (List.getElem?_eq_getElem hn) 0 (by omega)
 have hs : ∃ v, (yq.enc ls[0])[0]? = some v := ⟨_, rfl⟩
 obtain ⟨v, hv⟩ := hs
 rw [hv] at h0
 have := JL h0 x hx
 rw [hc] at this
 cases this
theorem KL (c : Rc) (hf : xM c) (L : List Px) (hL : L.length = areaN c) (okL : Ks L) (e : TA) (a : Option Addr) (cp0 : Nat) (bc bm cb g o cp : Nat) (z : Nat → Px) (w : World) (rs : RS (.slice a 1 cp0) [e] w) (tk : Qq e.t) (hw : qo e.x e.y = true) (r0 : zw 38 w bc (jP c)) (m0 : zw 117 w bm (jy c (.slice (some ⟨g, o, none⟩) (areaN c) cp))) (ce : zH yq g o L w) (tz : zV w cb z) (hsep : (Value.slice a 1 cp0).ownBlock ≠ some cb) :
  Calls Tryz.prog 126 #[.slice a 1 cp0, .func (.func 131) #[] #[.pointer (some ⟨bc, 0, none⟩), .pointer (some ⟨bm, 0, none⟩)]] w fun e' w' => ∃ a' cp', e' = .returned (.slice a' (jr e.x e.y (xo c L e.x e.y e.t)).length cp') ∧ RS (.slice a' (jr e.x e.y (xo c L e.x e.y e.t)).length cp') (jr e.x e.y (xo c L e.x e.y e.t)) w' ∧ Below w.heap.size w w' := by
 have eg := enters_of func131 (by kernel_rfl) rfl
 have l1 := r0.lt
 have l2 := m0.lt
 have l3 := ce.lt
 have l4 := tz.lt
 refine (KM (J5 c L) (fun _ W => zw 38 W bc (jP c) ∧ zw 117 W bm (jy c (.slice (some ⟨g, o, none⟩) (areaN c) cp)) ∧ zH yq g o L W ∧ zV W cb z) cb 131 #[.pointer (some ⟨bc, 0, none⟩), .pointer (some ⟨bm, 0, none⟩)] eg _ [e] () w rs (fun x hx => by rcases List.mem_singleton.1 hx with rfl; exact tk) (by simp) (fun x hx => by rcases List.mem_singleton.1 hx with rfl; exact hw) l4 (fun _ => hsep) ⟨r0, m0, ce, tz⟩
  (fun s W W' hI hk => ⟨hI.1.of_eq (hk _ l1), hI.2.1.of_eq (hk _ l2), hI.2.2.1.of_eq (hk _ l3), hI.2.2.2.of_eq (hk _ l4)⟩)
  (fun s W x y p _ hI h1 h2 h3 h4 hp => (zc0 c hf L hL okL x y p hp bc bm g o cp W hI.1 hI.2.1 hI.2.2.1).mono fun e' W' ⟨he, hb⟩ => ⟨he, ⟨hI.1.of_eq (hb.block _ hI.1.lt), hI.2.1.of_eq (hb.block _ hI.2.1.lt), hI.2.2.1.of_eq (hb.block _ hI.2.2.1.lt), hI.2.2.2.of_eq (hb.block _ hI.2.2.2.lt)⟩, qY.of_below hb⟩)
  (fun s x y p hp => za7 okL x y p hp)).mono ?_
 rintro e' w' ⟨v', rfl, od, hI, hcc⟩
 have hm : (vm (J5 c L) [e] () [e].length).2 = jr e.x e.y (xo c L e.x e.y e.t) := zek c L e
 rw [hm] at od
 have hb := Ww hcc (by rw [show w'.heap[cb]? = _ from hI.2.2.2, show w.heap[cb]? = _ from tz])
 obtain ⟨a', cp', rfl, _⟩ := od.len
 exact ⟨a', cp', rfl, od.rs, hb⟩
theorem zan (v : Value) (ls : List TA) (x y : Int) (k : Nat) (b : Bool) (w : World) (h : RS v ls w) (hs : QJ ls) (hn : ls.length ≤ 1000000) (hk : cutL ls x y = k) (hb : kV ls x y = b) : Calls Tryz.prog 130 #[v, .agg #[.int .i64 x, .int .i64 y]] w fun e w' => e = .returned (.tuple #[.int .i64 (k : Int), .bool b]) ∧ Below w.heap.size w w' := by
 subst hk hb
 exact Zx v ls x y w h hs hn
theorem Ko {F : Fence} {n : Nat} {P : Program} {c : Code} {Q : Exit → Act → World → Prop} {W : World} {t : Array Value} {p : Tmp} {v : Value} (h : c.wpIn F n P Q { tmps := t.setIfInBounds p v, defers := [] } W) :
  c.wpIn F n P Q { tmps := (#[p].zip #[v]).foldl (fun t (p, v) => t.setIfInBounds p v) t, defers := [] } W := by
 have e : (#[p].zip #[v]).foldl (fun t (p, v) => t.setIfInBounds p v) t = t.setIfInBounds p v := by
  show Array.foldl _ t (Array.zip (List.toArray [p]) (List.toArray [v])) = _
  rw [List.zip_toArray]; simp
 rw [e]
 exact h
theorem Wu (t : Array Value) (n : Nat) (h : t.size = n) : ∃ U : Nat → Value, t = ((List.range n).map U).toArray ∧ ∀ i, U i = t.getD i undef := by
 refine ⟨fun i => t.getD i undef, ?_, fun _ => rfl⟩
 apply Array.ext_getElem?
 intro k
 by_cases hk : k < n
 ·simp [hk, h]
 ·simp [hk, h]
def kL (w : World) (D : Nat) : Prop := w.heap[D]? = some (.deferred (some []))
theorem kL.of_eq {w w' : World} {D : Nat} (h : kL w D) (e : w'.heap[D]? = w.heap[D]?) : kL w' D := e.trans h
theorem kL.lt {w : World} {D : Nat} (h : kL w D) : D < w.heap.size := (Array.getElem?_eq_some_iff.1 h).1
theorem kL.be {w w' : World} {D : Nat} (h : kL w D) (e : Below w.heap.size w w') : kL w' D := h.of_eq (e.block _ h.lt)
theorem kL.cg {w w' : World} {D : Nat} (h : kL w D) {zc : Nat} (e : qY zc w w') (hn : D ≠ zc := by omega) : kL w' D := h.of_eq (e.block _ h.lt hn)
theorem kL.ne {w : World} {D b : Nat} {t : TypeId} {cs : Array Value} (h : kL w D) (k : zw t w b cs) : b ≠ D := fun e => by
 subst e
 have k' : w.heap[b]? = _ := k
 rw [show w.heap[b]? = _ from h] at k'
 cases k'
theorem zhM {g o : Nat} {ls : List TA} {w : World} (sc : qP g o ls w) {k : Nat} (hk : k < ls.length) : RS (.slice (some ⟨g, o + k * 258, none⟩) 1 1) [aT ls k] w := by
 refine .inr ⟨g, o + k * 258, 1, rfl, Nat.le_refl _, fun _ => ⟨sc.1, fun i hi j hj => ?_⟩⟩
 obtain rfl : i = 0 := by simpa using hi
 have := sc.2 k hk j hj
 rw [show o + k * 258 + (0 * 258 + j) = o + (k * 258 + j) by omega, this]
 rfl
theorem Wl (v : Value) (ls : List TA) (c : Rc) (u : Value) (L : List Px) (w : World) (h : RS v ls w) (tk : qQ ls) (hn : ls.length ≤ maxLen) (hE : jh c = 0) (hu : xh yq u L w) (hL : L.length = areaN c) (okL : Ks L) : Calls Tryz.prog 77 #[.agg #[v], .agg (jy c u)] w fun e w' => ∃ a cp, e = .returned (.tuple #[.agg #[.slice a (xk (xj c L (qh ls) (jG c))).length cp], .int .i64 (yz (xj c L (qh ls) (jG c)))]) ∧ RS (.slice a (xk (xj c L (qh ls) (jG c))).length cp) (xk (xj c L (qh ls) (jG c))) w' ∧ Below w.heap.size w w' := by
 have B := Below.refl w.heap.size w
 obtain ⟨a', c', hT⟩ := zas v ls w h tk hn
 have HT := zo hT
 clear hT
 obtain ⟨a, cpv, rfl, hc⟩ := h.len
 have HF := xY hE
 have FT := zo HF
 obtain ⟨an1, an2⟩ := wU HF
 have hAN := zo (uF HF)
 have HV := zo HF.valid
 obtain ⟨ad, cu, rfl, hcu⟩ := hu.len
 obtain ⟨g, o, rfl, ce⟩ := hu.at (by have := uF HF; omega)
 have SR := zo (xL (jB ls))
 have TK := zo (yk tk)
 have hfl := vj ls
 have hNle := Kl HF
 have OK := zo okL
 have HL := zo hL
 have HEE := zo hE
 have d1 : ((areaN c : Int) != (areaN c : Int)) = false := by simp
 rw [hL]
 rw [hL] at hcu
 clear h tk hu okL hL hE HF
 generalize hks : qh ls = KS at *
 refine (callsIn_wide (n := 3)).1 ?_
 refine callsIn_of_wp_marks func77 rfl trivial ?_ rfl
 simp only [ntmps77, List.size_toArray, List.length_cons, List.length_nil, Nat.reduceAdd, Nat.reduceSub, Array.replicate_succ, Array.replicate_zero, List.push_toArray, List.append_toArray, List.nil_append, List.cons_append]
 refine wpIn_wide.2 ?_
 go_upto_region 0 with fail
 refine wp_region_lit ?_
 try simp only [zR]
 (refine zL (t := 64) rfl _ rfl _ rfl ?_; intro b_r2 wn zb zd ht za zg; have zf := B.size; replace B := B.trans (za.mono (by omega)); have zk := zln zg; clear zg; have zh := ce.lt; replace ce := ce.be (za.mono zb); have r2 := ht; clear ht; simp only [zn])
 (refine zL (t := 117) rfl _ rfl _ rfl ?_; intro b_m3 wn zb zd ht za zg; have zf := B.size; replace B := B.trans (za.mono (by omega)); have zk := zln zg; clear zg; have zh := r2.lt; replace r2 := r2.be (za.mono zb); have zh := ce.lt; replace ce := ce.be (za.mono zb); have m3 := ht; clear ht; simp only [zn])
 (refine jp (t := 64) rfl _ (qK _ _ rfl) ?_; intro b_r4 wn zb zd ht za zg; have zf := B.size; replace B := B.trans (za.mono (by omega)); have zk := zln zg; clear zg; have zh := r2.lt; replace r2 := r2.be (za.mono zb); have zh := m3.lt; replace m3 := m3.be (za.mono zb); have zh := ce.lt; replace ce := ce.be (za.mono zb); have r4 := ht; clear ht; simp only [zn])
 refine z7 1 ?_
 go_upto_region 1 with fail
 refine wp_region_lit ?_
 try simp only [zR]
 refine jD 2 ?_
 repeat (first | go_big_quiet_skip | (go_big_quiet_want; first | ((first | refine zq (fun w hw => zK (zY m3 w hw)) ?_ | refine qB ?_ | refine qC ?_); simp only [zn]; go_big_quiet_on) | (go_big_quiet_op; go_big_quiet_on)))
 refine wpQuiet_nil ?_
 (refine jp (t := 38) rfl _ (zN _ _ rfl) ?_; intro b_c6 wn zb zd ht za zg; have zf := B.size; replace B := B.trans (za.mono (by omega)); have zk := zln zg; clear zg; have zh := r2.lt; replace r2 := r2.be (za.mono zb); have zh := m3.lt; replace m3 := m3.be (za.mono zb); have zh := r4.lt; replace r4 := r4.be (za.mono zb); have zh := ce.lt; replace ce := ce.be (za.mono zb); have c6 := ht; clear ht; simp only [zn])
 (refine qZ (hone := (by simp [jP, jy, Value.oneCell'])) c6 B ?_; clear c6 B; intro wn c6 ze zf zg B; replace r2 := r2.cg ze; replace m3 := m3.cg ze; replace r4 := r4.cg ze; replace ce := ce.cg ze)
 refine wpList_nil ?_
 replace c6 : zw 38 _ b_c6 (jP c) := c6
 go_upto_region 2 with fail
 try simp only [zR]
 have lx_r2 := r2.lt
 have lx_m3 := m3.lt
 have lx_r4 := r4.lt
 have lx_c6 := c6.lt
 have lx_ce := ce.lt
 refine zA 11 [(1, zF ?v1_1), (6, zF ?v1_6), (8, zF ?v1_8)] (by kernel_rfl) (by kernel_rfl) (by kernel_rfl) ?_
 rotate_left 3
 simp only [jS, Nat.reduceAdd]
 refine vV 1 ?_
 repeat (first | go_big_quiet_skip | (go_big_quiet_want; first | ((first | refine zq (fun w hw => zK (zY m3 w hw)) ?_ | refine qB ?_ | refine qC ?_); simp only [zn]; go_big_quiet_on) | (go_big_quiet_op; go_big_quiet_on)))
 refine wpQuiet_nil ?_
 refine zcB ?_ ?_
 ·intro wn za hE Kx hKx
  have zf := B.size; have zg := za.size; replace B := B.trans (za.mono B.size)
  replace r2 := r2.be za
  replace m3 := m3.be za
  replace r4 := r4.be za
  replace c6 := c6.be za
  replace ce := ce.be za
  refine zcF func128 ?_
  refine (uZ c true _ HV.out).mono ?_; rintro e wm ⟨rfl, zl⟩; refine ⟨_, rfl, ?_⟩; have hz := hKx () wm trivial zl
  dsimp only [zF] at hz
  exact hz
 rintro ⟨⟩
 dsimp only [zF]
 simp only [zn]
 refine vV 4 ?_
 repeat (first | go_big_quiet_skip | (go_big_quiet_want; first | ((first | refine zq (fun w hw => qL (xQ (zY m3 w hw))) ?_ | refine qB ?_ | refine qC ?_); simp only [zn]; go_big_quiet_on) | (go_big_quiet_op; go_big_quiet_on)))
 refine wpQuiet_nil ?_
 refine qv (by rfl) ?hw1_6 ?_ ?_
 case hw1_6 => kernel_rfl
 ·intro wn za hE Kx hKx
  have zf := B.size; have zg := za.size; replace B := B.trans (za.mono B.size)
  replace r2 := r2.be za
  replace m3 := m3.be za
  replace r4 := r4.be za
  replace c6 := c6.be za
  replace ce := ce.be za
  refine kK rfl underlying115 rfl ?_; exact hKx () _ trivial (Below.refl _ _)
 rintro ⟨⟩
 dsimp only [zF]
 simp only [zn]
 refine vV 1 ?_
 repeat (first | go_big_quiet_skip | (go_big_quiet_want; first | ((first | refine zq (fun w hw => zK (zY m3 w hw)) ?_ | refine qB ?_ | refine qC ?_); simp only [zn]; go_big_quiet_on) | (go_big_quiet_op; go_big_quiet_on)))
 refine wpQuiet_nil ?_
 refine qv (by rfl) ?hw1_8 ?_ ?_
 case hw1_8 => kernel_rfl
 ·intro wn za hE Kx hKx
  have zf := B.size; have zg := za.size; replace B := B.trans (za.mono B.size)
  replace r2 := r2.be za
  replace m3 := m3.be za
  replace r4 := r4.be za
  replace c6 := c6.be za
  replace ce := ce.be za
  refine zcF func125 ?_
  refine (Yo c (areaN c : Int) _ HV.out hAN.out).mono ?_; rintro e wm ⟨rfl, zl⟩; refine ⟨_, rfl, ?_⟩; have hz := hKx () wm trivial zl
  dsimp only [zF] at hz
  exact hz
 rintro ⟨⟩
 dsimp only [zF]
 simp only [zn]
 refine vi 2 ?_
 refine qi ?_
 intro wn za hE
 have zf := B.size
 have zg := za.size
 replace B := B.trans (za.mono B.size)
 replace r2 := r2.be za
 replace m3 := m3.be za
 replace r4 := r4.be za
 replace c6 := c6.be za
 replace ce := ce.be za
 clear hE
 try simp only [List.drop_succ_cons, List.drop_zero]
 refine zI.normal ?_
 go_upto_region 4 with fail
 refine wp_region_lit ?_
 try simp only [zR]
 refine jD 1 ?_
 repeat (first | go_big_quiet_skip | (go_big_quiet_want; first | ((first | refine zq (fun w hw => zK (zY m3 w hw)) ?_ | refine qB ?_ | refine qC ?_); simp only [zn]; go_big_quiet_on) | (go_big_quiet_op; go_big_quiet_on)))
 refine wpQuiet_nil ?_
 refine xz (zE func124) (c := zao c 0 _ HEE.out) (h := ?_)
 rintro e wn ⟨rfl, za⟩
 have zf := B.size
 have zg := za.size
 replace B := B.trans (za.mono B.size)
 replace r2 := r2.be za
 replace m3 := m3.be za
 replace r4 := r4.be za
 replace c6 := c6.be za
 replace ce := ce.be za
 refine ⟨_, rfl, ?_⟩
 simp only [zn]
 refine z7 1 ?_
 go_upto_region 5 with fail
 refine wp_region_lit ?_
 try simp only [zR]
 refine z7 2 ?_
 go_upto_region 7 with fail
 have rs1 := (HT.out _ B).2
 refine wp_region_lit ?_
 try simp only [zR]
 refine jL 1 ?_
 refine xz (zE func104) (c := (HT.out _ B).1) (h := ?_)
 rintro e wn ⟨rfl, za⟩
 have zf := B.size
 have zg := za.size
 replace B := B.trans (za.mono B.size)
 replace r2 := r2.be za
 replace m3 := m3.be za
 replace r4 := r4.be za
 replace c6 := c6.be za
 replace ce := ce.be za
 replace rs1 := rs1.be za
 refine ⟨_, rfl, ?_⟩
 simp only [zn]
 (refine jp (t := 62) rfl _ (Ka _ _ rfl) ?_; intro b_l8 wn zb zd ht za zg; have zf := B.size; replace B := B.trans (za.mono (by omega)); have zk := zln zg; clear zg; have zh := r2.lt; replace r2 := r2.be (za.mono zb); have zh := m3.lt; replace m3 := m3.be (za.mono zb); have zh := r4.lt; replace r4 := r4.be (za.mono zb); have zh := c6.lt; replace c6 := c6.be (za.mono zb); have zh := ce.lt; replace ce := ce.be (za.mono zb); replace rs1 := rs1.be (za.mono zb); have l8 := ht; clear ht; simp only [zn])
 (refine yh rfl _ _ rfl _ rfl _ _ _ rfl l8 (xV B (by omega) ?_); have l8o := l8; clear l8 B; intro wn l8 ze zf zg B; replace rs1 := rs1.chg l8o (by simp) ze; replace r2 := r2.cg ze; replace m3 := m3.cg ze; replace r4 := r4.cg ze; replace c6 := c6.cg ze; replace ce := ce.cg ze; simp only [zn])
 refine wpList_nil ?_
 have k2 : w.heap.size ≤ b_r2 := by omega
 have k3 : b_r2 < b_m3 := by have := r2.lt; omega
 have k4 : b_m3 < b_r4 := by have := m3.lt; omega
 have k6 : b_r4 < b_c6 := by have := r4.lt; omega
 have k8 : b_c6 < b_l8 := by have := c6.lt; omega
 have k9 := l8.lt
 have kg := ce.lt
 go_upto_region 8 with fail
 refine wp_region_lit ?_
 try simp only [zR]
 refine jD 1 ?_
 repeat (first | go_big_quiet_skip | (go_big_quiet_want; first | ((first | refine zq (fun w hw => zK (zY m3 w hw)) ?_ | refine qB ?_ | refine qC ?_); simp only [zn]; go_big_quiet_on) | (go_big_quiet_op; go_big_quiet_on)))
 refine wpQuiet_nil ?_
 refine xz (zE func129) (c := zft c _) (h := ?_)
 rintro e wn ⟨b_t, rfl, hbt, rt, za⟩
 have zf := B.size
 have zg := za.size
 replace B := B.trans (za.mono B.size)
 replace m3 := m3.be za
 replace r4 := r4.be za
 replace c6 := c6.be za
 replace ce := ce.be za
 replace l8 := l8.be za
 replace rs1 := rs1.be za
 refine ⟨_, rfl, ?_⟩
 simp only [zn]
 refine wpList_nil ?_
 go_wp2
 refine (wpIn_wide (n := 3)).1 ?_
 refine Xb (F := Fence.wide) rfl (by omega) (gf := 163) (lb := #[.pointer (some ⟨b_t, 0, none⟩)]) rfl trivial (zE func163) (V2 c FT.out b_t b_l8 _ (by omega) _ rt l8.lt) (fun h k => Xy.trans h k) (fun W l o o' _ hl ho _ => Xy.putObj b_l8 o' hl ho) (fun A B h => Xy.be h) (Below.refl _ _) (fun _ => rfl)
  (fun pre W => ∃ (a : Option Addr) (cp : Nat), zw 62 W b_l8 #[.slice a (xj c L KS (pre.map (wH c))).length cp] ∧ RS (.slice a (xj c L KS (pre.map (wH c))).length cp) (xj c L KS (pre.map (wH c))) W ∧ zw 117 W b_m3 (jy c (.slice (some ⟨g, o, none⟩) (areaN c) cu)) ∧ zw 38 W b_c6 (jP c) ∧ zw 64 W b_r4 #[.slice none 0 0] ∧ zH yq g o L W ∧ Below w.heap.size w W)
  (fun pre W W' row hI hg hr => ?own)
  ⟨a', c', l8, rs1, m3, c6, r4, ce, B⟩
  (fun x a' W => ∃ b9 : Nat, a'.defers = [] ∧ a'.tmps.size = 78 ∧ a'.tmps.getD 3 undef = .pointer (some ⟨b_m3, 0, none⟩) ∧ a'.tmps.getD 6 undef = .pointer (some ⟨b_c6, 0, none⟩) ∧ a'.tmps.getD 8 undef = .pointer (some ⟨b_l8, 0, none⟩) ∧ a'.tmps.getD 9 undef = .pointer (some ⟨b9, 0, none⟩) ∧ zw 95 W b9 #[.int .i64 (wH c x).1, .int .i64 (wH c x).2] ∧ b_l8 < b9)
  (fun x a' W W' row hA hg hr => ?own2) ?assign ?body ?done
 case own =>
  obtain ⟨a, cp, h1, h2, h3, h4, h5, h6, h7⟩ := hI; have hr' : ∀ r, row = some r → ∃ o : Obj, W.heap[r]? = some o ∧ o.isCells = false := fun r e => (hr r e).2
  have hsz1 := B.size; exact ⟨a, cp, h1.own hg hr', h2.own hg hr', h3.own hg hr', h4.own hg hr', h5.own hg hr', h6.ownP (by rw [HL.out]; omega) hg hr', wu h7 h7.size hg (fun r e => Nat.le_trans hsz1 (hr r e).1)⟩
 case own2 =>
  obtain ⟨b9, e1, e2, e3, e4, e5, e6, h1, h2⟩ := hA; exact ⟨b9, e1, e2, e3, e4, e5, e6, h1.own hg (fun r e => (hr r e).2), h2⟩
 case assign =>
  intro l pre x W K ⟨_, _, hl8, _⟩ hK; have B := Below.refl W.heap.size W; have hl := hl8.lt; obtain ⟨⟨X, Y⟩, hxy⟩ : ∃ p, wH c x = p := ⟨_, rfl⟩; rw [hxy] at hK
  dsimp only at hK
  rw [hxy]
  dsimp only
  refine Ko ?_; simp only [List.setIfInBounds_toArray, List.set_cons_succ, List.set_cons_zero]; refine zx (by kernel_rfl) ?_; try simp only [zR]
  (refine jp (t := 95) rfl _ (zX _ _ rfl) ?_; intro b_p9 wn zb zd ht za zg; have zf := B.size; replace B := B.trans (za.mono (by omega)); have zk := zln zg; clear zg; have p9 := ht; clear ht; simp only [zn])
  (refine qZ p9 B ?_; clear p9 B; intro wn p9 ze zf zg B)
  refine wpList_nil ?_; refine qN.at ?_; refine hK _ _ B ⟨_, rfl, rfl, rfl, rfl, rfl, rfl, p9, by omega⟩
 case body =>
  rintro l pre x W ⟨tm, df⟩ ⟨a, cp, l8, rs1, m3, c6, r4, ce, BW⟩ ⟨b9, e1, e2, e3, e4, e5, e6, p9, k10⟩ hpre; obtain ⟨U, hU, hUi⟩ := Wu tm 78 e2; rw [← hUi] at e3 e4 e5 e6; have eL : ((List.range 78).map U).toArray = #[U 0, U 1, U 2, U 3, U 4, U 5, U 6, U 7, U 8, U 9, U 10, U 11, U 12, U 13, U 14, U 15, U 16, U 17, U 18, U 19, U 20, U 21, U 22, U 23, U 24, U 25, U 26, U 27, U 28, U 29, U 30, U 31, U 32, U 33, U 34, U 35, U 36, U 37, U 38, U 39, U 40, U 41, U 42, U 43, U 44, U 45, U 46, U 47, U 48, U 49, U 50, U 51, U 52, U 53, U 54, U 55, U 56, U 57, U 58, U 59, U 60, U 61, U 62, U 63, U 64, U 65, U 66, U 67, U 68, U 69, U 70, U 71, U 72, U 73, U 74, U 75, U 76, U 77] := rfl; rw [eL] at hU; rw [e3, e4, e5, e6] at hU; subst hU; have e1 : df = [] := e1; subst e1; clear e2 e3 e4 e5 e6 hUi eL; obtain ⟨⟨X, Y⟩, hxy⟩ : ∃ p, wH c x = p := ⟨_, rfl⟩; have hwi := YW FT.out x.isLt; rw [show Zh c x.val = (X, Y) from hxy] at hwi
  have HWI := zo hwi; rw [hxy] at p9
  dsimp only at p9
  have hMn := J6 c L (pre.map (wH c)) KS; rw [List.length_map] at hMn; have SM0 := Z6 c L (pre.map (wH c)) KS SR.out; have TM0 := J7 OK.out (pre.map (wH c)) KS TK.out (c := c); have HNEW0 : xj c L KS ((pre ++ [x]).map (wH c)) = xF (xj c L KS (pre.map (wH c))) X Y (xo c L X Y (qc (xj c L KS (pre.map (wH c))) X Y)) := by
   rw [List.map_append, show [x].map (wH c) = [(X, Y)] from by rw [← hxy]; rfl, X3]
   rfl
  generalize xj c L KS (pre.map (wH c)) = M at *
  have SM := zo SM0; have TM := zo TM0; have HNEW := zo HNEW0; have L8 := zo l8; have HTK := zo (yJ TM0 X Y); have HTT := zo (J8 OK.out X Y (yJ TM0 X Y) (c := c)); have hM3 : M.length ≤ 3000 := by omega
  have hws := BW.size; have l8lt := l8.lt; have m3lt := m3.lt; have c6lt := c6.lt; have r4lt := r4.lt; have p9lt := p9.lt; have hpl := uN M X Y (xo c L X Y (qc M X Y)); obtain ⟨_, _, e1, hcp⟩ := rs1.len; simp only [Value.slice.injEq] at e1; obtain ⟨rfl, _, rfl⟩ := e1; have RS1W := zo rs1; have B := vH.refl b_l8 W; clear SM0 TM0 HNEW0 hMn hwi hxy; cases hh : kV M X Y with
  | true =>
   have HH := zo hh; obtain ⟨hc1, hc2⟩ := zhv SM.out hh; obtain ⟨k, hk⟩ : ∃ k, cutL M X Y = k := ⟨_, rfl⟩; rw [hk] at hc1 hc2; have HK := zo hk; obtain ⟨gg, oo, rfl, rc⟩ := rs1.at (by omega); have HC2 := zo hc2; clear hh hk hc2; gi_upto_region 10 with fail
   refine zx (by kernel_rfl) ?_; try simp only [zR]
   refine jD 2 ?_
   repeat (first | go_big_quiet_skip | (go_big_quiet_want; first | ((first | refine zy rfl X Y rfl ?_ | refine qB ?_ | refine qC ?_); simp only [zn]; go_big_quiet_on) | (go_big_quiet_op; go_big_quiet_on)))
   refine wpQuiet_nil ?_; refine xz (zE func130) (c := zan _ M X Y k true _ rs1 SM.out (by omega) HK.out HH.out) (h := ?_); rintro e wn ⟨rfl, za⟩; have zf := B.size; have zg := za.size; replace B := B.trans (za.mono B.size)
   replace l8 := l8.be za
   replace m3 := m3.be za
   replace c6 := c6.be za
   replace r4 := r4.be za
   replace ce := ce.be za
   replace p9 := p9.be za
   replace rs1 := rs1.be za
   refine ⟨_, rfl, ?_⟩; simp only [zn]; refine jD 5 ?_; repeat (first | go_big_quiet_skip | (go_big_quiet_want; first | ((first | refine zy rfl X Y rfl ?_ | refine qB ?_ | refine qC ?_); simp only [zn]; go_big_quiet_on) | (go_big_quiet_op; go_big_quiet_on)))
   refine wpQuiet_nil ?_; refine wpList_nil ?_; refine qN.at ?_; try dsimp only
   gi_upto_region 11 with fail
   refine zx (by kernel_rfl) ?_; try simp only [zR]
   refine jD 2 ?_
   repeat (first | go_big_quiet_skip | (go_big_quiet_want; first | ((first | refine zy rfl X Y rfl ?_ | refine qB ?_ | refine qC ?_); simp only [zn]; go_big_quiet_on) | (go_big_quiet_op; go_big_quiet_on)))
   refine wpQuiet_nil ?_
   (refine jU rfl _ rfl ⟨X, Y, zT⟩ (by rfl) ?_; intro b_s1 wn zb zd ht za zg; have zf := B.size; replace B := B.trans (za.mono (by omega)); have zk := zln zg; clear zg; have zh := l8.lt; replace l8 := l8.be (za.mono zb); have zh := m3.lt; replace m3 := m3.be (za.mono zb); have zh := c6.lt; replace c6 := c6.be (za.mono zb); have zh := r4.lt; replace r4 := r4.be (za.mono zb); have zh := ce.lt; replace ce := ce.be (za.mono zb); have zh := p9.lt; replace p9 := p9.be (za.mono zb); replace rs1 := rs1.be (za.mono zb); have s1 := ht; clear ht; simp only [zn])
   refine jD 1 ?_; repeat (first | go_big_quiet_skip | (go_big_quiet_want; first | ((first | refine zy rfl X Y rfl ?_ | refine qB ?_ | refine qC ?_); simp only [zn]; go_big_quiet_on) | (go_big_quiet_op; go_big_quiet_on)))
   refine wpQuiet_nil ?_; refine wpList_nil ?_; refine qN.at ?_; try dsimp only
   gi_upto_region 12 with fail
   refine zx (by kernel_rfl) ?_; try simp only [zR]
   refine jD 1 ?_; repeat (first | go_big_quiet_skip | (go_big_quiet_want; first | ((first | refine zy rfl X Y rfl ?_ | refine qB ?_ | refine qC ?_); simp only [zn]; go_big_quiet_on) | (go_big_quiet_op; go_big_quiet_on)))
   refine wpQuiet_nil ?_; refine wpList_nil ?_; refine qN.at ?_; try dsimp only
   gi_upto_region 13 with fail
   refine zx (by kernel_rfl) ?_; try simp only [zR]
   refine jD 8 ?_
   repeat (first | go_big_quiet_skip | (go_big_quiet_want; first | ((first | refine zy rfl X Y rfl ?_ | refine qB ?_ | refine qC ?_); simp only [zn]; go_big_quiet_on) | (go_big_quiet_op; go_big_quiet_on)))
   refine wpQuiet_nil ?_; refine wpList_nil ?_; refine qN.at ?_; try dsimp only
   obtain ⟨g2, o2, e2, rc'⟩ := rs1.at (by omega); obtain ⟨rfl, rfl⟩ : gg = g2 ∧ oo = o2 := by simpa using e2
   have rsm := zhM rc' hc1; rw [HC2.out] at rsm; have rsm0 := rsm; gi_upto_region 14 with fail
   refine zx (by kernel_rfl) ?_; try simp only [zR]
   (refine xD rfl rfl ?_; intro b_t13 wn zb zd ht za zg; have zf := B.size; replace B := B.trans (za.mono (by omega)); have zk := zln zg; clear zg; have zh := l8.lt; replace l8 := l8.be (za.mono zb); have zh := m3.lt; replace m3 := m3.be (za.mono zb); have zh := c6.lt; replace c6 := c6.be (za.mono zb); have zh := r4.lt; replace r4 := r4.be (za.mono zb); have zh := ce.lt; replace ce := ce.be (za.mono zb); have zh := p9.lt; replace p9 := p9.be (za.mono zb); replace rs1 := rs1.be (za.mono zb); replace rsm := rsm.be (za.mono zb); have t13 := ht; clear ht; simp only [zn])
   refine wpList_nil ?_; refine qN.at ?_; try dsimp only
   have HSEP := zo (W8 rsm0 zb (by simp)); clear rsm0; gi_upto_region 15 with fail
   refine zx (by kernel_rfl) ?_; try simp only [zR]
   refine jD 1 ?_; repeat (first | go_big_quiet_skip | (go_big_quiet_want; first | ((first | refine zy rfl X Y rfl ?_ | refine qB ?_ | refine qC ?_); simp only [zn]; go_big_quiet_on) | (go_big_quiet_op; go_big_quiet_on)))
   refine wpQuiet_nil ?_
   (refine qH rfl (.func (.func 131) #[] #[.pointer (some ⟨b_c6, 0, none⟩), .pointer (some ⟨b_m3, 0, none⟩)]) (by first | rfl | simp [go_sem, Act.eval]) ?_; simp only [zn])
   refine xz (zE func126) (c := KL c FT.out L HL.out OK.out ⟨X, Y, qc M X Y⟩ _ _ b_c6 b_m3 b_t13 g o cu _ _ rsm HTK.out HWI.out c6 m3 ce t13 HSEP.out) (h := ?_); rintro e wn ⟨a5, cp5, rfl, rs5, za⟩; have zf := B.size; have zg := za.size; replace B := B.trans (za.mono B.size)
   replace l8 := l8.be za
   replace m3 := m3.be za
   replace c6 := c6.be za
   replace r4 := r4.be za
   replace ce := ce.be za
   replace p9 := p9.be za
   replace t13 := t13.be za
   replace rs1 := rs1.be za
   replace rsm := rsm.be za
   refine ⟨_, rfl, ?_⟩; simp only [zn]; refine j1 underlying62 ?_; refine jD 1 ?_; repeat (first | go_big_quiet_skip | (go_big_quiet_want; first | ((first | refine zy rfl X Y rfl ?_ | refine qB ?_ | refine qC ?_); simp only [zn]; go_big_quiet_on) | (go_big_quiet_op; go_big_quiet_on)))
   refine wpQuiet_nil ?_; refine wpList_nil ?_; refine qN.at ?_; try dsimp only
   clear rsm HSEP; cases hz : ju (xo c L X Y (qc M X Y)) with
   | true =>
    have HN : jr X Y (xo c L X Y (qc M X Y)) = [] := by unfold jr; rw [hz]; rfl
    rw [HN] at rs5; simp only [HN, List.length_nil]; clear rs5 HN; have HZ := zo hz; clear hz; gi_wp2
    refine wpIn_loop_rounds 2 ?_; rw [roundsIn_succ]; gi_upto_region 16 with fail
    refine zx (by kernel_rfl) ?_; try simp only [zR]
    refine jD 1 ?_; repeat (first | go_big_quiet_skip | (go_big_quiet_want; first | ((first | refine zy rfl X Y rfl ?_ | refine qB ?_ | refine qC ?_); simp only [zn]; go_big_quiet_on) | (go_big_quiet_op; go_big_quiet_on)))
    refine wpQuiet_nil ?_; refine wpList_nil ?_; refine qN.at ?_; try dsimp only
    clear rs1; have rs1 := RS1W.out.chg L8.out (by simp) B.toChg; gi_upto_region 20 with fail
    refine zx (by kernel_rfl) ?_; try simp only [zR]
    refine jD 3 ?_
    repeat (first | go_big_quiet_skip | (go_big_quiet_want; first | ((first | refine zy rfl X Y rfl ?_ | refine j4 rfl _ rfl (xT t13) ?_ | refine zq (fun w hw => jj (zY t15 w hw)) ?_ | refine qB ?_ | refine qC ?_); simp only [zn]; go_big_quiet_on) | (go_big_quiet_op; go_big_quiet_on)))
    refine wpQuiet_nil ?_; refine xz (zE func132) (c := Yx _ M X Y (fun _ => Px.zero) _ rs1 SM.out (fun i _ => Px.zero_ok) (by omega)) (h := ?_); rintro e wn ⟨v8, rfl, rs8, za⟩; have zf := B.size; have zg := za.size; replace B := B.trans (za.mono B.size)
    replace l8 := l8.be za
    replace m3 := m3.be za
    replace c6 := c6.be za
    replace r4 := r4.be za
    replace ce := ce.be za
    replace p9 := p9.be za
    replace t13 := t13.be za
    replace rs1 := rs1.be za
    obtain ⟨a8, c8, rfl, hc8⟩ := rs8.len; refine ⟨_, rfl, ?_⟩; simp only [zn]
    (refine yh rfl _ _ rfl _ rfl _ _ _ rfl l8 ?_; have l8o := l8; clear l8; intro wn ht ze zg; replace rs8 := rs8.chg l8o (by simp) ze; have zf := B.size; replace zg := Nat.le_of_eq zg.symm; replace B := vH.chg B ze; replace m3 := m3.cg ze; replace c6 := c6.cg ze; replace r4 := r4.cg ze; replace ce := ce.cg ze; replace p9 := p9.cg ze; replace t13 := t13.cg ze; have l8 := ht; clear ht; simp only [zn])
    refine wpList_nil ?_; refine qN.at ?_; try dsimp only
    gi_wp2
    refine ⟨KeepsOthers.chgB B.toChg L8.out, Xy.chg B.toChg, ?_⟩
    dsimp only
    rw [HNEW.out]; have e := X6 M X Y (t := fun _ => Px.zero) (u := xo c L X Y (qc M X Y)) ((wP _).2 fun _ _ => rfl) HZ.out; rw [e] at rs8 l8; exact ⟨a8, c8, l8, rs8, m3, c6, r4, ce, qY.be BW B.toChg (by omega) BW.size⟩
   | false =>
    have HN : jr X Y (xo c L X Y (qc M X Y)) = [⟨X, Y, xo c L X Y (qc M X Y)⟩] := by unfold jr; rw [hz]; rfl
    rw [HN] at rs5; simp only [HN, List.length_cons, List.length_nil, Nat.zero_add]; obtain ⟨g5, o5, rfl, rc5⟩ := rs5.at (by simp); clear rs5 HN hz; have hlen1 : 0 < [(⟨X, Y, xo c L X Y (qc M X Y)⟩ : TA)].length := by simp
    gi_wp2
    refine wpIn_loop_rounds 2 ?_; rw [roundsIn_succ]; gi_upto_region 16 with fail
    refine zx (by kernel_rfl) ?_; try simp only [zR]
    refine jD 1 ?_; repeat (first | go_big_quiet_skip | (go_big_quiet_want; first | ((first | refine zy rfl X Y rfl ?_ | refine qB ?_ | refine qC ?_); simp only [zn]; go_big_quiet_on) | (go_big_quiet_op; go_big_quiet_on)))
    refine wpQuiet_nil ?_; refine wpList_nil ?_; refine qN.at ?_; try dsimp only
    gi_upto_region 17 with fail
    refine zx (by kernel_rfl) ?_; try simp only [zR]
    refine jD 2 ?_; repeat (first | go_big_quiet_skip | (go_big_quiet_want; first | ((first | refine zy rfl X Y rfl ?_ | refine zq (fun w hw => xt (jJ rc5 w hw) hlen1 rfl) ?_ | refine qB ?_ | refine qC ?_); simp only [zn]; go_big_quiet_on) | (go_big_quiet_op; go_big_quiet_on)))
    refine wpQuiet_nil ?_
    (refine jp (t := 125) rfl _ (qX _ _ rfl) ?_; intro b_t15 wn zb zd ht za zg; have zf := B.size; replace B := B.trans (za.mono (by omega)); have zk := zln zg; clear zg; have zh := l8.lt; replace l8 := l8.be (za.mono zb); have zh := m3.lt; replace m3 := m3.be (za.mono zb); have zh := c6.lt; replace c6 := c6.be (za.mono zb); have zh := r4.lt; replace r4 := r4.be (za.mono zb); have zh := ce.lt; replace ce := ce.be (za.mono zb); have zh := p9.lt; replace p9 := p9.be (za.mono zb); have zh := t13.lt; replace t13 := t13.be (za.mono zb); replace rs1 := rs1.be (za.mono zb); have zh := rc5.lt; replace rc5 := rc5.be (za.mono zb); have t15 := ht; clear ht; simp only [zn])
    (refine zZ (t := 125) rfl _ _ rfl _ rfl _ rfl t15 (by rw [zP]; kernel_rfl) (by simp only [zP, jz]) (xK _) ?_; clear t15; intro wn ht ze zg; have zf := B.size; replace zg := Nat.le_of_eq zg.symm; replace B := vH.store B ze (by omega); replace l8 := l8.cg ze; replace m3 := m3.cg ze; replace c6 := c6.cg ze; replace r4 := r4.cg ze; replace ce := ce.cg ze; replace p9 := p9.cg ze; replace t13 := t13.cg ze; replace rc5 := rc5.cg ze; have t15 := ht; clear ht; simp only [zn])
    refine wpList_nil ?_; refine qN.at ?_; try dsimp only
    replace t15 : zw 125 _ b_t15 (xE ⟨X, Y, xo c L X Y (qc M X Y)⟩) := t15; gi_upto_region 18 with fail
    refine zx (by kernel_rfl) ?_; try simp only [zR]
    refine jD 2 ?_; repeat (first | go_big_quiet_skip | (go_big_quiet_want; first | ((first | refine zy rfl X Y rfl ?_ | refine j4 rfl _ rfl (xT t13) ?_ | refine zq (fun w hw => jj (zY t15 w hw)) ?_ | refine qB ?_ | refine qC ?_); simp only [zn]; go_big_quiet_on) | (go_big_quiet_op; go_big_quiet_on)))
    refine wpQuiet_nil ?_
    (refine qF rfl _ _ rfl _ rfl _ rfl t13 ?_; clear t13; intro wn ht ze zg; have zf := B.size; replace zg := Nat.le_of_eq zg.symm; replace B := vH.store B ze (by omega); replace l8 := l8.cg ze; replace m3 := m3.cg ze; replace c6 := c6.cg ze; replace r4 := r4.cg ze; replace ce := ce.cg ze; replace p9 := p9.cg ze; replace t15 := t15.cg ze; have t13 := ht; clear ht; simp only [zn])
    refine wpList_nil ?_; refine qN.at ?_; try dsimp only
    gi_upto_region 19 with fail
    refine zx (by kernel_rfl) ?_; try simp only [zR]
    refine jD 2 ?_; repeat (first | go_big_quiet_skip | (go_big_quiet_want; first | ((first | refine zy rfl X Y rfl ?_ | refine qB ?_ | refine qC ?_); simp only [zn]; go_big_quiet_on) | (go_big_quiet_op; go_big_quiet_on)))
    refine wpQuiet_nil ?_; refine wpList_nil ?_; refine qN.at ?_; try dsimp only
    gi_wp2
    rw [roundsIn_succ]; gi_upto_region 16 with fail
    refine zx (by kernel_rfl) ?_; try simp only [zR]
    refine jD 1 ?_; repeat (first | go_big_quiet_skip | (go_big_quiet_want; first | ((first | refine zy rfl X Y rfl ?_ | refine qB ?_ | refine qC ?_); simp only [zn]; go_big_quiet_on) | (go_big_quiet_op; go_big_quiet_on)))
    refine wpQuiet_nil ?_; refine wpList_nil ?_; refine qN.at ?_; try dsimp only
    clear rs1; have rs1 := RS1W.out.chg L8.out (by simp) B.toChg; gi_upto_region 20 with fail
    refine zx (by kernel_rfl) ?_; try simp only [zR]
    refine jD 3 ?_
    repeat (first | go_big_quiet_skip | (go_big_quiet_want; first | ((first | refine zy rfl X Y rfl ?_ | refine j4 rfl _ rfl (xT t13) ?_ | refine zq (fun w hw => jj (zY t15 w hw)) ?_ | refine qB ?_ | refine qC ?_); simp only [zn]; go_big_quiet_on) | (go_big_quiet_op; go_big_quiet_on)))
    refine wpQuiet_nil ?_; refine xz (zE func132) (c := Yx _ M X Y (xo c L X Y (qc M X Y)) _ rs1 SM.out HTT.out (by omega)) (h := ?_); rintro e wn ⟨v8, rfl, rs8, za⟩; have zf := B.size; have zg := za.size; replace B := B.trans (za.mono B.size)
    replace l8 := l8.be za
    replace m3 := m3.be za
    replace c6 := c6.be za
    replace r4 := r4.be za
    replace ce := ce.be za
    replace p9 := p9.be za
    replace t13 := t13.be za
    replace t15 := t15.be za
    replace rs1 := rs1.be za
    obtain ⟨a8, c8, rfl, hc8⟩ := rs8.len; refine ⟨_, rfl, ?_⟩; simp only [zn]
    (refine yh rfl _ _ rfl _ rfl _ _ _ rfl l8 ?_; have l8o := l8; clear l8; intro wn ht ze zg; replace rs8 := rs8.chg l8o (by simp) ze; have zf := B.size; replace zg := Nat.le_of_eq zg.symm; replace B := vH.chg B ze; replace m3 := m3.cg ze; replace c6 := c6.cg ze; replace r4 := r4.cg ze; replace ce := ce.cg ze; replace p9 := p9.cg ze; replace t13 := t13.cg ze; replace t15 := t15.cg ze; have l8 := ht; clear ht; simp only [zn])
    refine wpList_nil ?_; refine qN.at ?_; try dsimp only
    gi_wp2
    refine ⟨KeepsOthers.chgB B.toChg L8.out, Xy.chg B.toChg, ?_⟩
    dsimp only
    rw [HNEW.out]; exact ⟨a8, c8, l8, rs8, m3, c6, r4, ce, qY.be BW B.toChg (by omega) BW.size⟩
  | false =>
   have HH := zo hh; have hz0 := zo (zf4 SM.out hh); obtain ⟨k, hk⟩ : ∃ k, cutL M X Y = k := ⟨_, rfl⟩; have HK := zo hk; have hkl := ZX M X Y; rw [hk] at hkl; clear hh hk; gi_upto_region 10 with fail
   refine zx (by kernel_rfl) ?_; try simp only [zR]
   refine jD 2 ?_
   repeat (first | go_big_quiet_skip | (go_big_quiet_want; first | ((first | refine zy rfl X Y rfl ?_ | refine qB ?_ | refine qC ?_); simp only [zn]; go_big_quiet_on) | (go_big_quiet_op; go_big_quiet_on)))
   refine wpQuiet_nil ?_; refine xz (zE func130) (c := zan _ M X Y k false _ rs1 SM.out (by omega) HK.out HH.out) (h := ?_); rintro e wn ⟨rfl, za⟩; have zf := B.size; have zg := za.size; replace B := B.trans (za.mono B.size)
   replace l8 := l8.be za
   replace m3 := m3.be za
   replace c6 := c6.be za
   replace r4 := r4.be za
   replace ce := ce.be za
   replace p9 := p9.be za
   replace rs1 := rs1.be za
   refine ⟨_, rfl, ?_⟩; simp only [zn]; refine jD 5 ?_; repeat (first | go_big_quiet_skip | (go_big_quiet_want; first | ((first | refine zy rfl X Y rfl ?_ | refine qB ?_ | refine qC ?_); simp only [zn]; go_big_quiet_on) | (go_big_quiet_op; go_big_quiet_on)))
   refine wpQuiet_nil ?_; refine wpList_nil ?_; refine qN.at ?_; try dsimp only
   gi_upto_region 11 with fail
   refine zx (by kernel_rfl) ?_; try simp only [zR]
   refine jD 2 ?_
   repeat (first | go_big_quiet_skip | (go_big_quiet_want; first | ((first | refine zy rfl X Y rfl ?_ | refine qB ?_ | refine qC ?_); simp only [zn]; go_big_quiet_on) | (go_big_quiet_op; go_big_quiet_on)))
   refine wpQuiet_nil ?_
   (refine jU rfl _ rfl ⟨X, Y, zT⟩ (by rfl) ?_; intro b_s1 wn zb zd ht za zg; have zf := B.size; replace B := B.trans (za.mono (by omega)); have zk := zln zg; clear zg; have zh := l8.lt; replace l8 := l8.be (za.mono zb); have zh := m3.lt; replace m3 := m3.be (za.mono zb); have zh := c6.lt; replace c6 := c6.be (za.mono zb); have zh := r4.lt; replace r4 := r4.be (za.mono zb); have zh := ce.lt; replace ce := ce.be (za.mono zb); have zh := p9.lt; replace p9 := p9.be (za.mono zb); replace rs1 := rs1.be (za.mono zb); have s1 := ht; clear ht; simp only [zn])
   refine jD 1 ?_; repeat (first | go_big_quiet_skip | (go_big_quiet_want; first | ((first | refine zy rfl X Y rfl ?_ | refine qB ?_ | refine qC ?_); simp only [zn]; go_big_quiet_on) | (go_big_quiet_op; go_big_quiet_on)))
   refine wpQuiet_nil ?_; refine wpList_nil ?_; refine qN.at ?_; try dsimp only
   gi_upto_region 12 with fail
   refine zx (by kernel_rfl) ?_; try simp only [zR]
   refine jD 1 ?_; repeat (first | go_big_quiet_skip | (go_big_quiet_want; first | ((first | refine zy rfl X Y rfl ?_ | refine qB ?_ | refine qC ?_); simp only [zn]; go_big_quiet_on) | (go_big_quiet_op; go_big_quiet_on)))
   refine wpQuiet_nil ?_; refine wpList_nil ?_; refine qN.at ?_; try dsimp only
   have rsm := RS.one s1; have rsm0 := rsm; gi_upto_region 14 with fail
   refine zx (by kernel_rfl) ?_; try simp only [zR]
   (refine xD rfl rfl ?_; intro b_t13 wn zb zd ht za zg; have zf := B.size; replace B := B.trans (za.mono (by omega)); have zk := zln zg; clear zg; have zh := l8.lt; replace l8 := l8.be (za.mono zb); have zh := m3.lt; replace m3 := m3.be (za.mono zb); have zh := c6.lt; replace c6 := c6.be (za.mono zb); have zh := r4.lt; replace r4 := r4.be (za.mono zb); have zh := ce.lt; replace ce := ce.be (za.mono zb); have zh := p9.lt; replace p9 := p9.be (za.mono zb); replace rs1 := rs1.be (za.mono zb); replace rsm := rsm.be (za.mono zb); have t13 := ht; clear ht; simp only [zn])
   refine wpList_nil ?_; refine qN.at ?_; try dsimp only
   have HSEP := zo (W8 rsm0 zb (by simp)); clear rsm0; gi_upto_region 15 with fail
   refine zx (by kernel_rfl) ?_; try simp only [zR]
   refine jD 1 ?_; repeat (first | go_big_quiet_skip | (go_big_quiet_want; first | ((first | refine zy rfl X Y rfl ?_ | refine qB ?_ | refine qC ?_); simp only [zn]; go_big_quiet_on) | (go_big_quiet_op; go_big_quiet_on)))
   refine wpQuiet_nil ?_
   (refine qH rfl (.func (.func 131) #[] #[.pointer (some ⟨b_c6, 0, none⟩), .pointer (some ⟨b_m3, 0, none⟩)]) (by first | rfl | simp [go_sem, Act.eval]) ?_; simp only [zn])
   refine xz (zE func126) (c := KL c FT.out L HL.out OK.out ⟨X, Y, zT⟩ _ _ b_c6 b_m3 b_t13 g o cu _ _ rsm (fun i _ => Px.zero_ok) HWI.out c6 m3 ce t13 HSEP.out) (h := ?_); rintro e wn ⟨a5, cp5, rfl, rs5, za⟩; have zf := B.size; have zg := za.size; replace B := B.trans (za.mono B.size)
   replace l8 := l8.be za
   replace m3 := m3.be za
   replace c6 := c6.be za
   replace r4 := r4.be za
   replace ce := ce.be za
   replace p9 := p9.be za
   replace t13 := t13.be za
   replace rs1 := rs1.be za
   replace rsm := rsm.be za
   refine ⟨_, rfl, ?_⟩; simp only [zn]; refine j1 underlying62 ?_; refine jD 1 ?_; repeat (first | go_big_quiet_skip | (go_big_quiet_want; first | ((first | refine zy rfl X Y rfl ?_ | refine qB ?_ | refine qC ?_); simp only [zn]; go_big_quiet_on) | (go_big_quiet_op; go_big_quiet_on)))
   refine wpQuiet_nil ?_; refine wpList_nil ?_; refine qN.at ?_; try dsimp only
   rw [← hz0.out] at rs5; simp only [← hz0.out]; clear rsm HSEP; cases hz : ju (xo c L X Y (qc M X Y)) with
   | true =>
    have HN : jr X Y (xo c L X Y (qc M X Y)) = [] := by unfold jr; rw [hz]; rfl
    rw [HN] at rs5; simp only [HN, List.length_nil]; clear rs5 HN; have HZ := zo hz; clear hz; gi_wp2
    refine wpIn_loop_rounds 2 ?_; rw [roundsIn_succ]; gi_upto_region 16 with fail
    refine zx (by kernel_rfl) ?_; try simp only [zR]
    refine jD 1 ?_; repeat (first | go_big_quiet_skip | (go_big_quiet_want; first | ((first | refine zy rfl X Y rfl ?_ | refine qB ?_ | refine qC ?_); simp only [zn]; go_big_quiet_on) | (go_big_quiet_op; go_big_quiet_on)))
    refine wpQuiet_nil ?_; refine wpList_nil ?_; refine qN.at ?_; try dsimp only
    clear rs1; have rs1 := RS1W.out.chg L8.out (by simp) B.toChg; gi_upto_region 20 with fail
    refine zx (by kernel_rfl) ?_; try simp only [zR]
    refine jD 3 ?_
    repeat (first | go_big_quiet_skip | (go_big_quiet_want; first | ((first | refine zy rfl X Y rfl ?_ | refine j4 rfl _ rfl (xT t13) ?_ | refine zq (fun w hw => jj (zY t15 w hw)) ?_ | refine qB ?_ | refine qC ?_); simp only [zn]; go_big_quiet_on) | (go_big_quiet_op; go_big_quiet_on)))
    refine wpQuiet_nil ?_; refine xz (zE func132) (c := Yx _ M X Y (fun _ => Px.zero) _ rs1 SM.out (fun i _ => Px.zero_ok) (by omega)) (h := ?_); rintro e wn ⟨v8, rfl, rs8, za⟩; have zf := B.size; have zg := za.size; replace B := B.trans (za.mono B.size)
    replace l8 := l8.be za
    replace m3 := m3.be za
    replace c6 := c6.be za
    replace r4 := r4.be za
    replace ce := ce.be za
    replace p9 := p9.be za
    replace t13 := t13.be za
    replace rs1 := rs1.be za
    obtain ⟨a8, c8, rfl, hc8⟩ := rs8.len; refine ⟨_, rfl, ?_⟩; simp only [zn]
    (refine yh rfl _ _ rfl _ rfl _ _ _ rfl l8 ?_; have l8o := l8; clear l8; intro wn ht ze zg; replace rs8 := rs8.chg l8o (by simp) ze; have zf := B.size; replace zg := Nat.le_of_eq zg.symm; replace B := vH.chg B ze; replace m3 := m3.cg ze; replace c6 := c6.cg ze; replace r4 := r4.cg ze; replace ce := ce.cg ze; replace p9 := p9.cg ze; replace t13 := t13.cg ze; have l8 := ht; clear ht; simp only [zn])
    refine wpList_nil ?_; refine qN.at ?_; try dsimp only
    gi_wp2
    refine ⟨KeepsOthers.chgB B.toChg L8.out, Xy.chg B.toChg, ?_⟩
    dsimp only
    rw [HNEW.out]; have e := X6 M X Y (t := fun _ => Px.zero) (u := xo c L X Y (qc M X Y)) ((wP _).2 fun _ _ => rfl) HZ.out; rw [e] at rs8 l8; exact ⟨a8, c8, l8, rs8, m3, c6, r4, ce, qY.be BW B.toChg (by omega) BW.size⟩
   | false =>
    have HN : jr X Y (xo c L X Y (qc M X Y)) = [⟨X, Y, xo c L X Y (qc M X Y)⟩] := by unfold jr; rw [hz]; rfl
    rw [HN] at rs5; simp only [HN, List.length_cons, List.length_nil, Nat.zero_add]; obtain ⟨g5, o5, rfl, rc5⟩ := rs5.at (by simp); clear rs5 HN hz; have hlen1 : 0 < [(⟨X, Y, xo c L X Y (qc M X Y)⟩ : TA)].length := by simp
    gi_wp2
    refine wpIn_loop_rounds 2 ?_; rw [roundsIn_succ]; gi_upto_region 16 with fail
    refine zx (by kernel_rfl) ?_; try simp only [zR]
    refine jD 1 ?_; repeat (first | go_big_quiet_skip | (go_big_quiet_want; first | ((first | refine zy rfl X Y rfl ?_ | refine qB ?_ | refine qC ?_); simp only [zn]; go_big_quiet_on) | (go_big_quiet_op; go_big_quiet_on)))
    refine wpQuiet_nil ?_; refine wpList_nil ?_; refine qN.at ?_; try dsimp only
    gi_upto_region 17 with fail
    refine zx (by kernel_rfl) ?_; try simp only [zR]
    refine jD 2 ?_; repeat (first | go_big_quiet_skip | (go_big_quiet_want; first | ((first | refine zy rfl X Y rfl ?_ | refine zq (fun w hw => xt (jJ rc5 w hw) hlen1 rfl) ?_ | refine qB ?_ | refine qC ?_); simp only [zn]; go_big_quiet_on) | (go_big_quiet_op; go_big_quiet_on)))
    refine wpQuiet_nil ?_
    (refine jp (t := 125) rfl _ (qX _ _ rfl) ?_; intro b_t15 wn zb zd ht za zg; have zf := B.size; replace B := B.trans (za.mono (by omega)); have zk := zln zg; clear zg; have zh := l8.lt; replace l8 := l8.be (za.mono zb); have zh := m3.lt; replace m3 := m3.be (za.mono zb); have zh := c6.lt; replace c6 := c6.be (za.mono zb); have zh := r4.lt; replace r4 := r4.be (za.mono zb); have zh := ce.lt; replace ce := ce.be (za.mono zb); have zh := p9.lt; replace p9 := p9.be (za.mono zb); have zh := t13.lt; replace t13 := t13.be (za.mono zb); replace rs1 := rs1.be (za.mono zb); have zh := rc5.lt; have t15 := ht; clear ht; simp only [zn])
    (refine zZ (t := 125) rfl _ _ rfl _ rfl _ rfl t15 (by rw [zP]; kernel_rfl) (by simp only [zP, jz]) (xK _) ?_; clear t15; intro wn ht ze zg; have zf := B.size; replace zg := Nat.le_of_eq zg.symm; replace B := vH.store B ze (by omega); replace l8 := l8.cg ze; replace m3 := m3.cg ze; replace c6 := c6.cg ze; replace r4 := r4.cg ze; replace ce := ce.cg ze; replace p9 := p9.cg ze; replace t13 := t13.cg ze; have t15 := ht; clear ht; simp only [zn])
    refine wpList_nil ?_; refine qN.at ?_; try dsimp only
    replace t15 : zw 125 _ b_t15 (xE ⟨X, Y, xo c L X Y (qc M X Y)⟩) := t15; gi_upto_region 18 with fail
    refine zx (by kernel_rfl) ?_; try simp only [zR]
    refine jD 2 ?_; repeat (first | go_big_quiet_skip | (go_big_quiet_want; first | ((first | refine zy rfl X Y rfl ?_ | refine j4 rfl _ rfl (xT t13) ?_ | refine zq (fun w hw => jj (zY t15 w hw)) ?_ | refine qB ?_ | refine qC ?_); simp only [zn]; go_big_quiet_on) | (go_big_quiet_op; go_big_quiet_on)))
    refine wpQuiet_nil ?_
    (refine qF rfl _ _ rfl _ rfl _ rfl t13 ?_; clear t13; intro wn ht ze zg; have zf := B.size; replace zg := Nat.le_of_eq zg.symm; replace B := vH.store B ze (by omega); replace l8 := l8.cg ze; replace m3 := m3.cg ze; replace c6 := c6.cg ze; replace r4 := r4.cg ze; replace ce := ce.cg ze; replace p9 := p9.cg ze; replace t15 := t15.cg ze; have t13 := ht; clear ht; simp only [zn])
    refine wpList_nil ?_; refine qN.at ?_; try dsimp only
    gi_upto_region 19 with fail
    refine zx (by kernel_rfl) ?_; try simp only [zR]
    refine jD 2 ?_; repeat (first | go_big_quiet_skip | (go_big_quiet_want; first | ((first | refine zy rfl X Y rfl ?_ | refine qB ?_ | refine qC ?_); simp only [zn]; go_big_quiet_on) | (go_big_quiet_op; go_big_quiet_on)))
    refine wpQuiet_nil ?_; refine wpList_nil ?_; refine qN.at ?_; try dsimp only
    gi_wp2
    rw [roundsIn_succ]; gi_upto_region 16 with fail
    refine zx (by kernel_rfl) ?_; try simp only [zR]
    refine jD 1 ?_; repeat (first | go_big_quiet_skip | (go_big_quiet_want; first | ((first | refine zy rfl X Y rfl ?_ | refine qB ?_ | refine qC ?_); simp only [zn]; go_big_quiet_on) | (go_big_quiet_op; go_big_quiet_on)))
    refine wpQuiet_nil ?_; refine wpList_nil ?_; refine qN.at ?_; try dsimp only
    clear rs1; have rs1 := RS1W.out.chg L8.out (by simp) B.toChg; gi_upto_region 20 with fail
    refine zx (by kernel_rfl) ?_; try simp only [zR]
    refine jD 3 ?_
    repeat (first | go_big_quiet_skip | (go_big_quiet_want; first | ((first | refine zy rfl X Y rfl ?_ | refine j4 rfl _ rfl (xT t13) ?_ | refine zq (fun w hw => jj (zY t15 w hw)) ?_ | refine qB ?_ | refine qC ?_); simp only [zn]; go_big_quiet_on) | (go_big_quiet_op; go_big_quiet_on)))
    refine wpQuiet_nil ?_; refine xz (zE func132) (c := Yx _ M X Y (xo c L X Y (qc M X Y)) _ rs1 SM.out HTT.out (by omega)) (h := ?_); rintro e wn ⟨v8, rfl, rs8, za⟩; have zf := B.size; have zg := za.size; replace B := B.trans (za.mono B.size)
    replace l8 := l8.be za
    replace m3 := m3.be za
    replace c6 := c6.be za
    replace r4 := r4.be za
    replace ce := ce.be za
    replace rs1 := rs1.be za
    obtain ⟨a8, c8, rfl, hc8⟩ := rs8.len; refine ⟨_, rfl, ?_⟩; simp only [zn]
    (refine yh rfl _ _ rfl _ rfl _ _ _ rfl l8 ?_; have l8o := l8; clear l8; intro wn ht ze zg; replace rs8 := rs8.chg l8o (by simp) ze; have zf := B.size; replace zg := Nat.le_of_eq zg.symm; replace B := vH.chg B ze; replace m3 := m3.cg ze; replace c6 := c6.cg ze; replace r4 := r4.cg ze; replace ce := ce.cg ze; have l8 := ht; clear ht; simp only [zn])
    refine wpList_nil ?_; refine qN.at ?_; try dsimp only
    gi_wp2
    refine ⟨KeepsOthers.chgB B.toChg L8.out, Xy.chg B.toChg, ?_⟩
    dsimp only
    rw [HNEW.out]; exact ⟨a8, c8, l8, rs8, m3, c6, r4, ce, qY.be BW B.toChg (by omega) BW.size⟩
 case done =>
  have hszB := B.size; rintro D xs W hD rfl ⟨a, cp, l8, rs1, m3, c6, r4, ce, BW⟩ hDD; have kd : kL W D := hDD; rw [zex] at l8 rs1; have B := BW; have hMn := J6 c L (jG c) KS; rw [vy] at hMn; obtain ⟨M, hM⟩ : ∃ M, xj c L KS (jG c) = M := ⟨_, rfl⟩; rw [hM] at l8 rs1 hMn; have HM := zo hM; clear hM; have hwD : w.heap.size ≤ D := by omega
  have hne := kd.ne r4; clear BW m3 c6 ce hD; go_upto_region 21 with fail
  by_cases hm : M.length ≤ 1024
  ·have e1 : xk M = M := if_pos hm
   have e2 : yz M = 0 := if_pos hm; refine wp_region_lit ?_; try simp only [zR]
   refine jL 1 ?_
   refine xz (zE func78) (c := yR _ M _ rs1 (by omega)) (h := ?_); rintro e wn ⟨v2, b2, rfl, _, _, od2, za⟩; have zf := B.size; have zg := za.size; replace B := B.trans (za.mono B.size)
   replace l8 := l8.be za
   replace r4 := r4.be za
   replace kd := kd.be za
   have rs2 := od2.rs; clear od2; obtain ⟨a2, c2, rfl, hc2⟩ := rs2.len; refine ⟨_, rfl, ?_⟩; simp only [zn]; refine xz (zE func133) (c := zc9 _ _ _ _ (by unfold maxLen; omega)) (h := ?_)
   rintro e wn ⟨rfl, za⟩; have zf := B.size; have zg := za.size; replace B := B.trans (za.mono B.size)
   replace l8 := l8.be za
   replace r4 := r4.be za
   replace kd := kd.be za
   replace rs2 := rs2.be za; rw [if_pos hm]; refine ⟨_, rfl, ?_⟩; simp only [zn]; refine jL 2 ?_
   (refine qZ r4 B ?_; have r4o := r4; clear r4 B; intro wn r4 ze zf zg B; replace rs2 := rs2.chg r4o (by simp) ze; replace l8 := l8.cg ze; replace kd := kd.cg ze)
   refine z7 1 ?_; go_wp2; refine ⟨by simp, .inl ⟨_, _, rfl, run_takeDeferred kd, ?_⟩⟩; refine ⟨_, ZJ (t := 64) rfl _ _ b_r4 rfl _ rfl ((World.putObj_heap_other (fun e => hne (by omega))).trans r4) isAgg64 (by kernel_rfl), ?_⟩; have BF := B.trans (belowK_b (w := w) (Nat.le_refl _) wn D _ (.deferred none) hwD kd rfl rfl)
   dsimp only
   rw [HM.out, e1, e2]; exact ⟨_, _, rfl, rs2.own (grownBy_putObj' _ _ _) (fun r e => by cases e; exact ⟨_, kd, rfl⟩), BF⟩
  ·have e1 : xk M = [] := if_neg hm
   have e2 : yz M = 2 := if_neg hm; refine wp_region_lit ?_; try simp only [zR]
   refine jL 1 ?_
   refine xz (zE func78) (c := yR _ M _ rs1 (by omega)) (h := ?_); rintro e wn ⟨v2, b2, rfl, _, _, od2, za⟩; have zf := B.size; have zg := za.size; replace B := B.trans (za.mono B.size)
   replace r4 := r4.be za
   replace kd := kd.be za
   have rs2 := od2.rs; clear od2; obtain ⟨a2, c2, rfl, hc2⟩ := rs2.len; refine ⟨_, rfl, ?_⟩; simp only [zn]; refine xz (zE func133) (c := zc9 _ _ _ _ (by unfold maxLen; omega)) (h := ?_)
   rintro e wn ⟨rfl, za⟩; have zf := B.size; have zg := za.size; replace B := B.trans (za.mono B.size)
   replace r4 := r4.be za
   replace kd := kd.be za
   replace rs2 := rs2.be za; rw [if_neg hm]; refine ⟨_, rfl, ?_⟩; simp only [zn]; refine jL 2 ?_
   (refine qZ r4 B ?_; have r4o := r4; clear r4 B; intro wn r4 ze zf zg B; replace kd := kd.cg ze)
   refine z7 1 ?_; go_wp2; refine ⟨by simp, .inl ⟨_, _, rfl, run_takeDeferred kd, ?_⟩⟩; refine ⟨_, ZJ (t := 64) rfl _ _ b_r4 rfl _ rfl ((World.putObj_heap_other (fun e => hne (by omega))).trans r4) isAgg64 (by kernel_rfl), ?_⟩; have BF := B.trans (belowK_b (w := w) (Nat.le_refl _) wn D _ (.deferred none) hwD kd rfl rfl)
   dsimp only
   rw [HM.out, e1, e2]; exact ⟨_, _, rfl, RS.nil _, BF⟩
def jf : Xz Sp 3 43 26 where
 enc := fun a => #[.int .i64 a.x, .int .i64 a.y, .int .i64 a.p]
 bytes := 24
 zero := ⟨0, 0, 0⟩
 size := fun _ => rfl
 one := fun x u hu => by
  have : u ∈ [Value.int .i64 x.x, .int .i64 x.y, .int .i64 x.p] := hu; simp at this
  rcases this with rfl | rfl | rfl <;> rfl
 pos := by omega
 small := by omega
 und := underlying26
 info := by kernel_rfl
 zer := by kernel_rfl
theorem zeY {g o : Nat} {ls : List Sp} {w : World} (h : zH jf g o ls w) {i : Nat} {a : Sp} (hi : ls[i]? = some a) : w.cell? ⟨g, o + i * 3, none⟩ = some (.int .i64 a.x) := by
 have := h.2 i a hi 0 (by omega)
 rw [← Nat.add_assoc] at this
 exact this
theorem zeZ {g o : Nat} {ls : List Sp} {w : World} (h : zH jf g o ls w) {i : Nat} {a : Sp} (hi : ls[i]? = some a) : w.cell? ⟨g, o + i * 3 + 1, none⟩ = some (.int .i64 a.y) := by
 have := h.2 i a hi 1 (by omega)
 rw [← Nat.add_assoc] at this
 exact this
theorem zjz {t : TypeId} {w : World} {b : Nat} {a : Sp} (h : zw t w b (jf.enc a)) : w.cell? ⟨b, 2, none⟩ = some (.int .i64 a.p) := h.cell 2 rfl
theorem zhT {g o : Nat} {ls : List Sp} {w : World} (h : zH jf g o ls w) {i : Nat} {a : Sp} (hi : ls[i]? = some a) : w.cell? ⟨g, o + i * 3 + 2, none⟩ = some (.int .i64 a.p) := by
 have := h.2 i a hi 2 (by omega)
 rw [← Nat.add_assoc] at this
 exact this
def kA : Xz Db 3 45 35 where
 enc := fun a => #[.int .i64 a.x, .int .i64 a.y, .int .i64 a.r]
 bytes := 24
 zero := ⟨0, 0, 0⟩
 size := fun _ => rfl
 one := fun x u hu => by
  have : u ∈ [Value.int .i64 x.x, .int .i64 x.y, .int .i64 x.r] := hu; simp at this
  rcases this with rfl | rfl | rfl <;> rfl
 pos := by omega
 small := by omega
 und := underlying35
 info := by kernel_rfl
 zer := by kernel_rfl
theorem zdN {g o : Nat} {ls : List Db} {w : World} (h : zH kA g o ls w) {i : Nat} {a : Db} (hi : ls[i]? = some a) : w.cell? ⟨g, o + i * 3 + 2, none⟩ = some (.int .i64 a.r) := by
 have := h.2 i a hi 2 (by omega)
 rw [← Nat.add_assoc] at this
 exact this
def jg (v : Value) (s : jb) : Array Value := #[v, .int .i64 s.rad, .int .i64 s.spa, .int .u8 s.col.r, .int .u8 s.col.g, .int .u8 s.col.b, .int .u8 s.col.a, .bool s.era, .int .i64 s.pha]
section
variable {t : TypeId} {w : World} {b : Nat} {v : Value} {s : jb}
theorem zbd (h : zw t w b (jg v s)) : w.cell? ⟨b, 0, none⟩ = some v := h.cell 0 rfl
theorem xy (h : zw t w b (jg v s)) : (Instr.loadAt 28 (.pointer (some ⟨b, 3, none⟩))).run Tryz.prog w = .ok (.agg #[.int .u8 s.col.r, .int .u8 s.col.g, .int .u8 s.col.b, .int .u8 s.col.a]) w :=
 uP h 3 isAgg28 (by kernel_rfl) (fun j hj => by
  have hj : j < 4 := hj
  match j, hj with
  | 0, _ => rfl
  | 1, _ => rfl
  | 2, _ => rfl
  | 3, _ => rfl)
end
theorem VN (w : World) (o : Oper) (ho : o.op = .alloc 3) (ev : Operand → Value) : (execOp ev o).run Tryz.prog w = .ok (.value (.pointer (some ⟨w.heap.size, 0, none⟩))) (w.alloc (.cells #[.int .i64 0] 3)) := by
 obtain ⟨d, p, t, ps, af, gd⟩ := o
 simp only at ho
 subst ho
 kernel_rfl
theorem xn (w : World) (o : Oper) (ho : o.op = .alloc 43) (ev : Operand → Value) : (execOp ev o).run Tryz.prog w = .ok (.value (.pointer (some ⟨w.heap.size, 0, none⟩))) (w.alloc (.cells #[.int .i64 0, .int .i64 0, .int .i64 0] 43)) := by
 obtain ⟨d, p, t, ps, af, gd⟩ := o
 simp only at ho
 subst ho
 kernel_rfl
theorem y9 (w : World) (o : Oper) (ho : o.op = .alloc 45) (ev : Operand → Value) : (execOp ev o).run Tryz.prog w = .ok (.value (.pointer (some ⟨w.heap.size, 0, none⟩))) (w.alloc (.cells #[.int .i64 0, .int .i64 0, .int .i64 0] 45)) := by
 obtain ⟨d, p, t, ps, af, gd⟩ := o
 simp only at ho
 subst ho
 kernel_rfl
theorem qn (w : World) (o : Oper) (ho : o.op = .alloc 30) (ev : Operand → Value) : (execOp ev o).run Tryz.prog w = .ok (.value (.pointer (some ⟨w.heap.size, 0, none⟩))) (w.alloc (.cells #[.slice none 0 0, .int .i64 0, .int .i64 0, .int .u8 0, .int .u8 0, .int .u8 0, .int .u8 0, .bool false, .int .i64 0] 30)) := by
 obtain ⟨d, p, t, ps, af, gd⟩ := o
 simp only at ho
 subst ho
 kernel_rfl
theorem xr {t : TypeId} {ops : Array Oper} {rest : List Oper} {o : Oper} {a : Act} {w : World} {Q : Exit → Act → World → Prop} (hg : o.guard = none) (x y : Operand) (ho : o.op = .store 3 x y) (b i : Nat) (hx : a.eval x = .pointer (some ⟨b, i, none⟩)) (z : Int) (hy : a.eval y = .int .i64 z) {cs : Array Value} (ht : zw t w b cs) {c : Value} (hc : cs[i]? = some c)
  (h : ∀ w', zw t w' b (cs.setIfInBounds i (.int .i64 z)) → qY b w w' → w'.heap.size = w.heap.size → wpList Tryz.prog ops Q rest (a.put o.dst undef) w') : wpList Tryz.prog ops Q (o :: rest) a w := by
 have c0 := ht.cell i hc
 have f0 := ht.frozen i
 refine qj hg x y ho (w.setCell ⟨b, i, none⟩ (.int .i64 z)) ?_ (h _ ?_ ((qY.refl b w).setCell _) (by simp only [World.size_setCell]))
 ·rw [hx, hy]
  simp [go_sem, c0, f0]
 ·exact heap_setCell_same w b i cs _ _ ht
theorem Km {x d : Int} (hx : x ≤ 0) (hd : 0 < d) : x.tmod d ≤ 0 ∧ x.tdiv d ≤ 0 := by
 obtain ⟨n, rfl⟩ : ∃ n : Nat, x = -(n : Int) := ⟨(-x).toNat, by omega⟩
 rw [Int.neg_tmod, Int.neg_tdiv, Int.tmod_eq_emod_of_nonneg (by omega), Int.tdiv_eq_ediv_of_nonneg (by omega)]
 have h1 := Int.emod_nonneg (n : Int) (show d ≠ 0 by omega)
 have h2 : 0 ≤ (n : Int) / d := Int.ediv_nonneg (by omega) (by omega)
 omega
theorem Yi {x d : Int} (h : x < 0) (hd : 0 < d) : (x.tmod d = 0 → x.tdiv d = x / d) ∧ (x.tmod d ≠ 0 → x.tdiv d - 1 = x / d) := by
 have e : d * x.tdiv d + x.tmod d = x := by have := Int.tmod_def x d; omega
 have b1 : -d < x.tmod d := by have := Int.lt_tmod_of_pos x hd; omega
 have b2 : x.tmod d ≤ 0 := (Km (x := x) (by omega) (show 0 < d by omega)).1
 generalize x.tmod d = r at *
 generalize x.tdiv d = q at *
 rw [Int.mul_comm] at e
 constructor
 ·intro h0
  exact ((Int.ediv_emod_unique (a := x) (q := q) (r := 0) hd).2 ⟨by rw [Int.mul_comm d q]; omega, by omega, hd⟩).1.symm
 ·intro h0
  exact ((Int.ediv_emod_unique (a := x) (q := q - 1) (r := r + d) hd).2 ⟨by rw [Int.mul_comm d (q - 1), Int.sub_mul]; omega, by omega, by omega⟩).1.symm
theorem V0 {x d m : Int} (hd : 1 ≤ d) (h1 : -m ≤ x) (h2 : x ≤ 0) : -m ≤ x.tdiv d ∧ x.tdiv d ≤ 0 := by
 have e : d * x.tdiv d + x.tmod d = x := by have := Int.tmod_def x d; omega
 have b2 : x.tmod d ≤ 0 := (Km (x := x) (by omega) (show 0 < d by omega)).1
 have hq : x.tdiv d ≤ 0 := (Km h2 (show 0 < d by omega)).2
 refine ⟨?_, hq⟩
 have : d * x.tdiv d ≤ x.tdiv d := by
  have h := Int.mul_le_mul_of_nonneg_right hd (show 0 ≤ -x.tdiv d by omega); rw [Int.one_mul, Int.mul_neg] at h; omega
 have hb : x ≤ d * x.tdiv d := by omega
 -- d * q = x - r, so -m ≤ x ≤ d * q ≤ q
 omega
theorem zcV (x d : Int) (w : World) (hx1 : -4611686018427387904 ≤ x) (hx2 : x ≤ 4611686018427387904) (hd : 1 ≤ d) (hd2 : d ≤ 4611686018427387904) : Calls Tryz.prog 111 #[.int .i64 x, .int .i64 d] w fun e w' => e = .returned (.int .i64 (x / d)) ∧ Below w.heap.size w w' := by
 have e0 : (d == 0) = false := by simp; omega
 have e00 : d ≠ 0 := by omega
 have e01 : decide (d < 0) = false := zB (by omega)
 have e02 : ¬ d < 0 := by omega
 by_cases h0 : 0 ≤ x
 ·have h1 : ¬ x < 0 := by omega
  have d1 : decide (x < 0) = false := zB h1; have t1 : x.tdiv d = x / d := Int.tdiv_eq_ediv_of_nonneg h0; have t2 : x.tmod d = x % d := Int.tmod_eq_emod_of_nonneg h0; have b1 : 0 ≤ x / d := Int.ediv_nonneg h0 (by omega); have b2 : x / d ≤ x := Int.ediv_le_self d h0; by_cases hm : x % d = 0
  ·have e1 : (x % d == 0) = true := by simpa using hm
   have e2 : (x % d != 0) = false := by simpa using hm
   clear hm h0 h1; go_enter func111, ntmps111
   go_wp2; go_ret; exact ⟨by first | rfl | rw [t1], by go_grown⟩
  ·have e1 : (x % d == 0) = false := by simpa using hm
   have e2 : (x % d != 0) = true := by simpa using hm
   clear hm h0 h1; go_enter func111, ntmps111
   go_wp2; go_ret; exact ⟨by first | rfl | rw [t1], by go_grown⟩
 ·have h1 : x < 0 := by omega
  have d1 : decide (x < 0) = true := zQ h1; obtain ⟨t1, t2⟩ := Yi h1 (show 0 < d by omega); have hb := V0 (m := 4611686018427387904) hd hx1 (show x ≤ 0 by omega); by_cases hm : x.tmod d = 0
  ·have E := zo (t1 hm)
   have e1 : (x.tmod d == 0) = true := by simpa using hm
   have e2 : (x.tmod d != 0) = false := by simpa using hm
   clear t1 t2 h0 hm; go_enter func111, ntmps111
   go_wp2; go_ret; exact ⟨qk E.out, by go_grown⟩
  ·have E := zo (t2 hm)
   have e1 : (x.tmod d == 0) = false := by simpa using hm
   have e2 : (x.tmod d != 0) = true := by simpa using hm
   clear t1 t2 h0 hm; go_enter func111, ntmps111
   go_wp2; go_ret; exact ⟨qk E.out, by go_grown⟩
theorem uB (x d q : Int) (w : World) (hx1 : -4611686018427387904 ≤ x) (hx2 : x ≤ 4611686018427387904) (hd : 1 ≤ d) (hd2 : d ≤ 4611686018427387904) (e : x / d = q) : Calls Tryz.prog 111 #[.int .i64 x, .int .i64 d] w fun e w' => e = .returned (.int .i64 q) ∧ Below w.heap.size w w' := e ▸ zcV x d w hx1 hx2 hd hd2
theorem zdr (x d : Int) (w : World) (hx1 : -4611686018427387904 ≤ x) (hx2 : x ≤ 4611686018427387904) (hd : 1 ≤ d) (hd2 : d ≤ 4611686018427387904) : Calls Tryz.prog 67 #[.int .i64 x, .int .i64 d] w fun e w' => e = .returned (.int .i64 (x / d)) ∧ Below w.heap.size w w' := by
 have e0 : (d == 0) = false := by simp; omega
 have e00 : d ≠ 0 := by omega
 have e01 : decide (d < 0) = false := zB (by omega)
 have e02 : ¬ d < 0 := by omega
 by_cases h0 : 0 ≤ x
 ·have h1 : ¬ x < 0 := by omega
  have d1 : decide (x < 0) = false := zB h1; have t1 : x.tdiv d = x / d := Int.tdiv_eq_ediv_of_nonneg h0; have t2 : x.tmod d = x % d := Int.tmod_eq_emod_of_nonneg h0; have b1 : 0 ≤ x / d := Int.ediv_nonneg h0 (by omega); have b2 : x / d ≤ x := Int.ediv_le_self d h0; by_cases hm : x % d = 0
  ·have e1 : (x % d == 0) = true := by simpa using hm
   have e2 : (x % d != 0) = false := by simpa using hm
   clear hm h0 h1; go_enter func67, ntmps67
   go_wp2; go_ret; exact ⟨by first | rfl | rw [t1], by go_grown⟩
  ·have e1 : (x % d == 0) = false := by simpa using hm
   have e2 : (x % d != 0) = true := by simpa using hm
   clear hm h0 h1; go_enter func67, ntmps67
   go_wp2; go_ret; exact ⟨by first | rfl | rw [t1], by go_grown⟩
 ·have h1 : x < 0 := by omega
  have d1 : decide (x < 0) = true := zQ h1; obtain ⟨t1, t2⟩ := Yi h1 (show 0 < d by omega); have hb := V0 (m := 4611686018427387904) hd hx1 (show x ≤ 0 by omega); by_cases hm : x.tmod d = 0
  ·have E := zo (t1 hm)
   have e1 : (x.tmod d == 0) = true := by simpa using hm
   have e2 : (x.tmod d != 0) = false := by simpa using hm
   clear t1 t2 h0 hm; go_enter func67, ntmps67
   go_wp2; go_ret; exact ⟨qk E.out, by go_grown⟩
  ·have E := zo (t2 hm)
   have e1 : (x.tmod d == 0) = false := by simpa using hm
   have e2 : (x.tmod d != 0) = true := by simpa using hm
   clear t1 t2 h0 hm; go_enter func67, ntmps67
   go_wp2; go_ret; exact ⟨qk E.out, by go_grown⟩
theorem uD (x d q : Int) (w : World) (hx1 : -4611686018427387904 ≤ x) (hx2 : x ≤ 4611686018427387904) (hd : 1 ≤ d) (hd2 : d ≤ 4611686018427387904) (e : x / d = q) : Calls Tryz.prog 67 #[.int .i64 x, .int .i64 d] w fun e w' => e = .returned (.int .i64 q) ∧ Below w.heap.size w w' := e ▸ zdr x d w hx1 hx2 hd hd2
theorem wg (x d q : Int) (w : World) (hx1 : -1000000000000000000 ≤ x) (hx2 : x ≤ 1000000000000000000) (hd : 1 ≤ d) (hd2 : d ≤ 1000000000000000000) (e : zG x d = q) : Calls Tryz.prog 68 #[.int .i64 x, .int .i64 d] w fun e w' => e = .returned (.int .i64 q) ∧ Below w.heap.size w w' := by
 have B := Below.refl w.heap.size w
 have E := zo (show (2 * x + d) / (2 * d) = q from e)
 clear e
 go_enter func68, ntmps68
 go_upto_region 1 with fail
 refine qz 6 ?_
 refine qe B (zE func111) (c := uB (2 * x + d) (2 * d) q _ (by omega) (by omega) (by omega) (by omega) E.out) ?_
 clear B
 intro wn za zf zg B
 refine z7 1 ?_
 go_wp2
 go_ret
 exact ⟨rfl, B⟩
theorem ws (x d q : Int) (w : World) (hx1 : -1000000000000000000 ≤ x) (hx2 : x ≤ 1000000000000000000) (hd : 1 ≤ d) (hd2 : d ≤ 1000000000000000000) (e : zG x d = q) : Calls Tryz.prog 23 #[.int .i64 x, .int .i64 d] w fun e w' => e = .returned (.int .i64 q) ∧ Below w.heap.size w w' := by
 have B := Below.refl w.heap.size w
 have E := zo (show (2 * x + d) / (2 * d) = q from e)
 clear e
 go_enter func23, ntmps23
 go_upto_region 1 with fail
 refine qz 6 ?_
 refine qe B (zE func67) (c := uD (2 * x + d) (2 * d) q _ (by omega) (by omega) (by omega) (by omega) E.out) ?_
 clear B
 intro wn za zf zg B
 refine z7 1 ?_
 go_wp2
 go_ret
 exact ⟨rfl, B⟩
end Go.Proofs.YtepelndbbhdofaaGreatDoor
namespace Go.Proofs.YtepelndbbhdofaaGreatDoor
open Go.RowKit Go.Lib Sha
set_option linter.unusedVariables false
set_option linter.unusedSimpArgs false
set_option maxRecDepth 20000
open Go.Proofs.Tryz
def UB (B b : Nat) (l : List UInt8) (w : World) : Prop := Lib.BuilderAt 131 5 B b (.pointer (some ⟨b, 0, none⟩)) (Lib.byteCells l) w
def KB (b : Nat) (w w' : World) : Prop := ∀ (k : Nat) (t : TypeId) (cs : Array Value), zw t w k cs → k ≠ b → t ≠ 5 → zw t w' k cs
theorem UB.holds {B b : Nat} {l : List UInt8} {w : World} (h : UB B b l w) : yQ B b l w := .inr h
theorem UB.lt {B b : Nat} {l : List UInt8} {w : World} (h : UB B b l w) : b < w.heap.size := h.holds.lt
theorem UB.be {B b : Nat} {l : List UInt8} {w w' : World} (h : UB B b l w) (hb : Below w.heap.size w w') : UB B b l w' := by
 have zh := h.lt
 obtain ⟨hB, v, hv, hown, hne⟩ := h
 exact ⟨hB, v, (hb.block b zh).trans hv, hown.kept (row := none) ⟨hb.os, hb.tape, hb.output, hb.size, fun k hk _ => hb.block k hk⟩ (Classical.em _), hne⟩
theorem KB.be {b : Nat} {w w' : World} (hb : Below w.heap.size w w') : KB b w w' := fun k t cs h _ _ => h.of_eq (hb.block k h.lt)
theorem KB.trans {b : Nat} {u v w : World} (h : KB b u v) (k : KB b v w) : KB b u w := fun i t cs hi hb ht => k i t cs (h i t cs hi hb ht) hb ht
theorem zbj (B b : Nat) (l : List UInt8) (s : ByteArray) (w : World) (h : yQ B b l w) (hlen : l.length + s.size ≤ 140737488355328) (hBw : B ≤ w.heap.size) :
  Calls Tryz.prog 83 #[.pointer (some ⟨b, 0, none⟩), .string s] w fun e w' => e = .returned (.tuple #[.int .i64 s.size, .nilIface]) ∧ UB B b (l ++ bytes s) w' ∧ Below B w w' :=
 (Any.Builder_WriteString zaU Vc B b (Lib.byteCells l) s w h (by simpa [Lib.byteCells] using hlen) hBw).mono fun e w' ⟨h1, h2, h3⟩ => ⟨h1, (by unfold UB; rw [XO]; exact h2), h3⟩
theorem zfx (B b : Nat) (l : List UInt8) (w : World) (h : UB B b l w) : Calls Tryz.prog 137 #[.pointer (some ⟨b, 0, none⟩)] w fun e w' => e = .returned (.tuple #[]) ∧ w' = w := Any.Builder_copyCheck_used { zaU with } Vc.toX72 b w h.cell0
set_option maxHeartbeats 2000000 in
theorem zfv (B b : Nat) (l : List UInt8) (s : ByteArray) (w : World) (h : UB B b l w) (hlen : l.length + s.size ≤ 140737488355328) (hBw : B ≤ w.heap.size) :
  Calls Tryz.prog 83 #[.pointer (some ⟨b, 0, none⟩), .string s] w fun e w' => (∃ v, e = .returned v) ∧ UB B b (l ++ bytes s) w' ∧ Below B w w' ∧ KB b w w' := by
 have zh := h.lt
 have HU := zo h
 obtain ⟨hB, v, hbk, hown, hne⟩ := h
 have c1 : w.cell? ⟨b, 1, none⟩ = some v := by rw [Lib.cell_of_heap hbk]; rfl
 have hcl : (Lib.byteCells l).length = l.length := by simp [Lib.byteCells]
 obtain ⟨i0, hi, hz0, hz1, hz2⟩ := info_parts Vc.infoByte
 go_enter func83, ntmps83
 go_wp2_with (go_at_call 137; refine (zfx B b l _ HU.out).mono ?_)
 rintro e w1 ⟨rfl, hw⟩
 have hw2 := hw.symm
 clear hw
 subst hw2
 go_wp2_with (at_builtin; refine Lib.wpList_append_own_string _ rfl _ _ 75 9 rfl B 5 i0 underlying75 underlying9 hi hz0 hz1 hz2 _ _ _ rfl hown s rfl ?c3 ?c4 ?c5 ?_)
 case c3 => rw [hcl]; unfold maxLen; omega
 case c4 => rw [hcl]; omega
 case c5 => exact hBw
 intro v' w2 hown' hgrow _
 have hb2 : w2.heap[b]? = some (.cells #[.pointer (some ⟨b, 0, none⟩), v] 131 (0, 0)) := by
  rw [hgrow.block b zh (fun e => hne e.symm)]; exact hbk
 have d1 : w2.cell? ⟨b, 1, none⟩ = some v := by rw [Lib.cell_of_heap hb2]; rfl
 have f1 : w2.frozen? ⟨b, 1, none⟩ = false := Lib.frozen_of_heap hb2 1
 have KG : KB b w w2 := fun k t cs hk hkb ht => hk.of_eq (hgrow.block k hk.lt fun e => by
  rcases hown.2 with ⟨rfl, _⟩ | ⟨g, cap, cur, rfl, _, hgc, _⟩
  ·cases e
  ·have hgk : k = g := by simpa [Value.ownBlock] using e
   subst hgk; rw [show w.heap[k]? = _ from hk] at hgc
   injection hgc with hgc
   injection hgc with _ e2 _
   exact ht e2)
 obtain ⟨ao, n', cap, rfl⟩ : ∃ ao n' cap, v' = .slice ao n' cap := by
  rcases hown'.2 with ⟨hv, _⟩ | ⟨g, cap, cur, hv, _⟩
  ·exact ⟨_, _, _, hv⟩
  ·exact ⟨_, _, _, hv⟩
 have HOW := zo hown
 clear hown hbk HU c1
 go_wp2
 go_ret2
 refine ⟨⟨_, rfl⟩, ?_, ?_, ?_⟩
 ·unfold UB
  rw [XO]; exact Lib.BuilderAt.put (T := 131) (e := 5) hB hb2 (bs' := Lib.byteCells l ++ Lib.strCells s) (by rw [List.length_append, Lib.strCells_length, hcl]; exact hown') Vc.neB5
 ·exact ((Below.refl B w).grown hgrow hBw (fun k hk => (World.ownsRow.lt HOW.out k hk).1)).setCell (p := ⟨b, 1, none⟩) hB _
 ·exact fun k t cs hk hkb ht => (KG k t cs hk hkb ht).of_eq (((qY.refl b w2).setCell _).block k (KG k t cs hk hkb ht).lt hkb)
theorem zAD (n m : Nat) : bytes (y5 (jO n m)) = jO n m := rfl
theorem zfD (B0 b : Nat) (l : List UInt8) (n : Nat) (w : World) (h : yQ B0 b l w) (hn : n < 16777216) (hlen : l.length ≤ 100000) (hBw : B0 ≤ w.heap.size) : Calls Tryz.prog 82 #[.int .i64 (n : Int), .int .i64 1, .pointer (some ⟨b, 0, none⟩)] w fun e w' => (∃ v, e = .returned v) ∧ UB B0 b (l ++ jO n 1) w' ∧ Below B0 w w' := by
 have B := Below.refl w.heap.size w
 go_enter func82, ntmps82
 go_upto_region 0 with fail
 refine qz 2 ?_
 refine qe B (zE func84) (c := zc3 n (by omega) _) ?_
 clear B
 intro wn za zf zg B
 replace h := h.be za
 refine xz (zE func83) (c := zbj B0 b l _ wn h (by rw [jZ, zD]; omega) (by have := B.size; omega)) (h := ?_)
 rintro e wm ⟨rfl, hu, zl⟩
 rw [zAD] at hu
 refine ⟨_, rfl, ?_⟩
 simp only [zn]
 refine wpList_nil ?_
 go_wp2
 go_end0
 refine ⟨⟨_, rfl⟩, hu, (B.mono hBw).trans zl⟩
theorem zha (B0 b : Nat) (l : List UInt8) (n : Nat) (w : World) (h : UB B0 b l w) (hn : n < 16777216) (hlen : l.length ≤ 100000) (hBw : B0 ≤ w.heap.size) : Calls Tryz.prog 82 #[.int .i64 (n : Int), .int .i64 1, .pointer (some ⟨b, 0, none⟩)] w fun e w' => (∃ v, e = .returned v) ∧ UB B0 b (l ++ jO n 1) w' ∧ Below B0 w w' ∧ KB b w w' := by
 have B := Below.refl w.heap.size w
 go_enter func82, ntmps82
 go_upto_region 0 with fail
 refine qz 2 ?_
 refine qe B (zE func84) (c := zc3 n (by omega) _) ?_
 clear B
 intro wn za zf zg B
 replace h := h.be za
 refine xz (zE func83) (c := zfv B0 b l _ wn h (by rw [jZ, zD]; omega) (by have := B.size; omega)) (h := ?_)
 rintro e wm ⟨⟨v, rfl⟩, hu, zl, hkm⟩
 rw [zAD] at hu
 refine ⟨_, rfl, ?_⟩
 simp only [zn]
 refine wpList_nil ?_
 go_wp2
 go_end0
 refine ⟨⟨_, rfl⟩, hu, (B.mono hBw).trans zl, (KB.be B).trans hkm⟩
theorem zhb (B0 b : Nat) (l : List UInt8) (n : Nat) (w : World) (h : UB B0 b l w) (hn : n < 16777216) (hlen : l.length ≤ 100000) (hBw : B0 ≤ w.heap.size) : Calls Tryz.prog 82 #[.int .i64 (n : Int), .int .i64 2, .pointer (some ⟨b, 0, none⟩)] w fun e w' => (∃ v, e = .returned v) ∧ UB B0 b (l ++ jO n 2) w' ∧ Below B0 w w' ∧ KB b w w' := by
 have B := Below.refl w.heap.size w
 go_enter func82, ntmps82
 go_upto_region 0 with fail
 refine qz 2 ?_
 refine qe B (zE func84) (c := zg6 n (by omega) _) ?_
 clear B
 intro wn za zf zg B
 replace h := h.be za
 refine xz (zE func83) (c := zfv B0 b l _ wn h (by rw [jZ, zD]; omega) (by have := B.size; omega)) (h := ?_)
 rintro e wm ⟨⟨v, rfl⟩, hu, zl, hkm⟩
 rw [zAD] at hu
 refine ⟨_, rfl, ?_⟩
 simp only [zn]
 refine wpList_nil ?_
 go_wp2
 go_end0
 refine ⟨⟨_, rfl⟩, hu, (B.mono hBw).trans zl, (KB.be B).trans hkm⟩
theorem zhc (B0 b : Nat) (l : List UInt8) (n : Nat) (w : World) (h : UB B0 b l w) (hn : n < 16777216) (hlen : l.length ≤ 100000) (hBw : B0 ≤ w.heap.size) : Calls Tryz.prog 82 #[.int .i64 (n : Int), .int .i64 3, .pointer (some ⟨b, 0, none⟩)] w fun e w' => (∃ v, e = .returned v) ∧ UB B0 b (l ++ jO n 3) w' ∧ Below B0 w w' ∧ KB b w w' := by
 have B := Below.refl w.heap.size w
 go_enter func82, ntmps82
 go_upto_region 0 with fail
 refine qz 2 ?_
 refine qe B (zE func84) (c := zg7 n (by omega) _) ?_
 clear B
 intro wn za zf zg B
 replace h := h.be za
 refine xz (zE func83) (c := zfv B0 b l _ wn h (by rw [jZ, zD]; omega) (by have := B.size; omega)) (h := ?_)
 rintro e wm ⟨⟨v, rfl⟩, hu, zl, hkm⟩
 rw [zAD] at hu
 refine ⟨_, rfl, ?_⟩
 simp only [zn]
 refine wpList_nil ?_
 go_wp2
 go_end0
 refine ⟨⟨_, rfl⟩, hu, (B.mono hBw).trans zl, (KB.be B).trans hkm⟩
end Go.Proofs.YtepelndbbhdofaaGreatDoor
namespace Go.Proofs.YtepelndbbhdofaaGreatDoor
open Go.RowKit Go.Shelf Pl Sha Go.Proofs.Tryz
set_option linter.unusedVariables false
set_option linter.unusedSimpArgs false
set_option maxRecDepth 20000
set_option maxHeartbeats 8000000
def beN (l : List UInt8) : Nat := l.foldl (fun n b => 256 * n + b.toNat) 0
theorem JF (l : List UInt8) (b : UInt8) : beN (l ++ [b]) = 256 * beN l + b.toNat := by unfold beN; rw [List.foldl_append]; rfl
theorem zcs {P : List UInt8 → Prop} (h0 : P []) (h1 : ∀ l b, P l → P (l ++ [b])) : ∀ l, P l := fun l => by
 rw [← List.reverse_reverse l]
 induction l.reverse with
 | nil => exact h0
 | cons b r ih => rw [List.reverse_cons]; exact h1 _ _ ih
theorem JE (l : List UInt8) : beN l < 256 ^ l.length := by
 induction l using zcs with
 | h0 => show 0 < 256 ^ 0; decide
 | h1 l b ih =>
  rw [JF, List.length_append, List.length_singleton, Nat.pow_succ]; have := b.toNat_lt; omega
theorem vh : ∀ (m n : Nat), n < 256 ^ m → beN (jO n m) = n
  | 0, n, h => by have : n = 0 := by simpa using h
                  subst this; rfl
  | m + 1, n, h => by
    rw [Nat.pow_succ] at h; show beN (jO (n / 256) m ++ [UInt8.ofNat n]) = n
    rw [JF, vh m (n / 256) (by omega), UInt8.toNat_ofNat']; omega
def xW (l : List UInt8) (i m : Nat) : List UInt8 := (l.drop i).take m
theorem ze8 {l : List UInt8} {i m : Nat} (h : i + m ≤ l.length) : (xW l i m).length = m := by unfold xW; rw [List.length_take, List.length_drop]; omega
theorem ke {l A B C : List UInt8} {i m : Nat} (h : l = A ++ B ++ C) (hi : A.length = i) (hm : B.length = m) : xW l i m = B := by
 subst h hi hm
 unfold xW
 rw [List.append_assoc, List.drop_left, List.take_left]
theorem zbe {l : List UInt8} {i m j : Nat} (hj : j < m) : (xW l i m)[j]? = l[i + j]? := by
 unfold xW
 rw [List.getElem?_take, if_pos hj, List.getElem?_drop]
def ptB (p : Sp) : List UInt8 := jO (p.x + 1048576).toNat 3 ++ jO (p.y + 1048576).toNat 3 ++ jO p.p.toNat 1
def x3 (l : List Sp) : List UInt8 := l.flatMap ptB
def uG (c : Px) : List UInt8 := [bt c.r, bt c.g, bt c.b, bt c.a]
def uv (s : jb) : Nat := if s.era = true then 1 else 0
def ZO (s : jb) : List UInt8 := jO s.rad.toNat 2 ++ jO s.spa.toNat 2 ++ uG s.col ++ jO (uv s) 1 ++ jO s.pha.toNat 3
def jw (s : jb) : List UInt8 := jO s.pts.length 1 ++ x3 s.pts ++ ZO s
def yX (s : jb) : List UInt8 := if jT s = true then jw s else []
theorem zgu (p : Sp) : (ptB p).length = 7 := by unfold ptB; simp only [List.length_append, zD]
theorem vz (l : List Sp) : (x3 l).length = 7 * l.length := by
 induction l with
 | nil => rfl
 | cons p r ih =>
  show (ptB p ++ x3 r).length = _
  rw [List.length_append, zgu, ih, List.length_cons]; omega
theorem QR (a b : List Sp) : x3 (a ++ b) = x3 a ++ x3 b := List.flatMap_append
theorem zcg (a : List Sp) (p : Sp) : x3 (a ++ [p]) = x3 a ++ ptB p := by
 rw [QR]
 show x3 a ++ (ptB p ++ []) = _
 rw [List.append_nil]
theorem zct (s : jb) : (ZO s).length = 12 := by unfold ZO uG; simp only [List.length_append, zD, List.length_cons, List.length_nil]
theorem JJ (s : jb) : (jw s).length = 13 + 7 * s.pts.length := by
 unfold jw
 rw [List.length_append, List.length_append, zD, vz, zct]
 omega
def Zg (l : List UInt8) : Nat := beN (xW l 0 1)
def WP (l : List UInt8) (i : Nat) : Sp := ⟨(beN (xW l (1 + 7 * i) 3) : Int) - 1048576, (beN (xW l (4 + 7 * i) 3) : Int) - 1048576, (beN (xW l (7 + 7 * i) 1) : Int)⟩
def WO (l : List UInt8) (e : Nat) : Px := ⟨((l.getD e 0).toNat : Int), ((l.getD (e + 1) 0).toNat : Int), ((l.getD (e + 2) 0).toNat : Int), ((l.getD (e + 3) 0).toNat : Int)⟩
def pkS (l : List UInt8) (n : Nat) : jb := ⟨(List.range n).map (WP l), (beN (xW l (1 + 7 * n) 2) : Int), (beN (xW l (3 + 7 * n) 2) : Int), WO l (5 + 7 * n), decide (beN (xW l (9 + 7 * n) 1) = 1), (beN (xW l (10 + 7 * n) 3) : Int)⟩
def XB (l : List UInt8) : jb := pkS l (Zg l)
def zSt : jb := ⟨[], 0, 0, Px.zero, false, 0⟩
def Zp (l : List UInt8) : jb × Int := if l.length < 13 + 7 * Zg l then (zSt, 10) else if yX (XB l) = l then (XB l, 0) else (zSt, 11)
theorem zgs (l : List UInt8) (e : Nat) : (WO l e).ok := by
 unfold WO
 have h : ∀ b : UInt8, 0 ≤ (b.toNat : Int) ∧ (b.toNat : Int) ≤ 255 := fun b => by have := b.toNat_lt; omega
 exact ⟨h _, h _, h _, h _⟩
theorem zfZ (s : jb) : uv s ≤ 1 := by unfold uv; split <;> omega
theorem Wx (s : jb) : xW (jw s) (9 + 7 * s.pts.length) 1 = jO (uv s) 1 :=
 ke (A := jO s.pts.length 1 ++ x3 s.pts ++ (jO s.rad.toNat 2 ++ jO s.spa.toNat 2 ++ uG s.col)) (C := jO s.pha.toNat 3) (by unfold jw ZO; simp only [List.append_assoc]) (by simp only [List.length_append, zD, vz, uG, List.length_cons, List.length_nil]; omega) (zD _ _)
theorem K0 (s : jb) (h : s.pts.length ≤ 255) : Zg (jw s) = s.pts.length := by
 unfold Zg
 rw [ke (i := 0) (m := 1) (A := []) (B := jO s.pts.length 1) (C := x3 s.pts ++ ZO s) (by unfold jw; simp only [List.append_assoc, List.nil_append]) rfl (zD _ _)]
 exact vh 1 _ (by omega)
theorem zbJ {s : jb} {i : Nat} {p : Sp} (h : s.pts[i]? = some p) (ok : Q6 p) : WP (jw s) i = p := by
 have hi : i < s.pts.length := (List.getElem?_eq_some_iff.1 h).1
 have e : s.pts = s.pts.take i ++ (p :: s.pts.drop (i + 1)) := by
  have := List.take_append_drop i s.pts; rw [List.drop_eq_getElem_cons hi] at this; have hp : s.pts[i] = p := (List.getElem?_eq_some_iff.1 h).2; rw [hp] at this; exact this.symm
 have e2 : jw s = jO s.pts.length 1 ++ x3 (s.pts.take i) ++ ptB p ++ (x3 (s.pts.drop (i + 1)) ++ ZO s) := by
  have e3 : x3 s.pts = x3 (s.pts.take i) ++ (ptB p ++ x3 (s.pts.drop (i + 1))) := by
   conv => lhs; rw [e]
   rw [QR]
   rfl
  unfold jw; rw [e3]; simp only [List.append_assoc]
 have hA : (jO s.pts.length 1 ++ x3 (s.pts.take i)).length = 1 + 7 * i := by rw [List.length_append, zD, vz, List.length_take]; omega
 obtain ⟨o1, o2, o3, o4, o5, o6⟩ := ok
 have h1 : xW (jw s) (1 + 7 * i) 3 = jO (p.x + 1048576).toNat 3 := ke (A := jO s.pts.length 1 ++ x3 (s.pts.take i)) (C := jO (p.y + 1048576).toNat 3 ++ (jO p.p.toNat 1 ++ (x3 (s.pts.drop (i + 1)) ++ ZO s))) (by rw [e2]; unfold ptB; simp only [List.append_assoc]) hA (zD _ _)
 have h2 : xW (jw s) (4 + 7 * i) 3 = jO (p.y + 1048576).toNat 3 := ke (A := jO s.pts.length 1 ++ x3 (s.pts.take i) ++ jO (p.x + 1048576).toNat 3) (C := jO p.p.toNat 1 ++ (x3 (s.pts.drop (i + 1)) ++ ZO s)) (by rw [e2]; unfold ptB; simp only [List.append_assoc]) (by rw [List.length_append, hA, zD]; omega) (zD _ _)
 have h3 : xW (jw s) (7 + 7 * i) 1 = jO p.p.toNat 1 := ke (A := jO s.pts.length 1 ++ x3 (s.pts.take i) ++ jO (p.x + 1048576).toNat 3 ++ jO (p.y + 1048576).toNat 3) (C := x3 (s.pts.drop (i + 1)) ++ ZO s) (by rw [e2]; unfold ptB; simp only [List.append_assoc]) (by rw [List.length_append, List.length_append, hA, zD, zD]; omega) (zD _ _)
 unfold WP
 rw [h1, h2, h3, vh 3 _ (by omega), vh 3 _ (by omega), vh 1 _ (by omega)]
 obtain ⟨x, y, z⟩ := p
 simp only at o1 o2 o3 o4 o5 o6 ⊢
 congr 1 <;> omega
theorem zcc {s : jb} (h : XM s) (hc : s.col.ok) : XB (jw s) = s := by
 have hl1 := h.l1
 have hl2 := h.l2
 unfold XB
 rw [K0 s (by omega)]
 have hpts : (List.range s.pts.length).map (WP (jw s)) = s.pts := by
  apply List.ext_getElem?
  intro i; rw [List.getElem?_map]; by_cases hi : i < s.pts.length
  ·rw [List.getElem?_range hi, List.getElem?_eq_getElem hi]
   show some _ = some _
   congr 1
   exact zbJ (List.getElem?_eq_getElem hi) (h.ok _ (List.getElem_mem hi))
  ·rw [List.getElem?_eq_none (by rw [List.length_range]; omega), List.getElem?_eq_none (by omega)]
   rfl
 have hH : (jO s.pts.length 1 ++ x3 s.pts).length = 1 + 7 * s.pts.length := by rw [List.length_append, zD, vz]
 have h1 : xW (jw s) (1 + 7 * s.pts.length) 2 = jO s.rad.toNat 2 := ke (A := jO s.pts.length 1 ++ x3 s.pts) (C := jO s.spa.toNat 2 ++ (uG s.col ++ (jO (uv s) 1 ++ jO s.pha.toNat 3))) (by unfold jw ZO; simp only [List.append_assoc]) hH (zD _ _)
 have h2 : xW (jw s) (3 + 7 * s.pts.length) 2 = jO s.spa.toNat 2 := ke (A := jO s.pts.length 1 ++ x3 s.pts ++ jO s.rad.toNat 2) (C := uG s.col ++ (jO (uv s) 1 ++ jO s.pha.toNat 3)) (by unfold jw ZO; simp only [List.append_assoc]) (by rw [List.length_append, hH, zD]; omega) (zD _ _)
 have h3 : xW (jw s) (5 + 7 * s.pts.length) 4 = uG s.col := ke (A := jO s.pts.length 1 ++ x3 s.pts ++ jO s.rad.toNat 2 ++ jO s.spa.toNat 2) (C := jO (uv s) 1 ++ jO s.pha.toNat 3) (by unfold jw ZO; simp only [List.append_assoc]) (by rw [List.length_append, List.length_append, hH, zD, zD]; omega) rfl
 have h4 := Wx s
 have h5 : xW (jw s) (10 + 7 * s.pts.length) 3 = jO s.pha.toNat 3 := ke (A := jO s.pts.length 1 ++ x3 s.pts ++ (jO s.rad.toNat 2 ++ jO s.spa.toNat 2 ++ uG s.col ++ jO (uv s) 1)) (C := []) (by unfold jw ZO; simp only [List.append_assoc, List.append_nil]) (by simp only [List.length_append, zD, vz, uG, List.length_cons, List.length_nil]; omega) (zD _ _)
 have hcol : WO (jw s) (5 + 7 * s.pts.length) = s.col := by
  have g : ∀ (j : Nat) (x : Int), j < 4 → (uG s.col)[j]? = some (bt x) → 0 ≤ x ∧ x ≤ 255 → (((jw s).getD (5 + 7 * s.pts.length + j) 0).toNat : Int) = x := fun j x hj hx hb => by
   rw [← h3, zbe hj] at hx; rw [List.getD_eq_getElem?_getD, hx]; exact (JH hb).symm
  obtain ⟨c1, c2, c3, c4⟩ := hc; have g0 := g 0 _ (by omega) rfl c1; have g1 := g 1 _ (by omega) rfl c2; have g2 := g 2 _ (by omega) rfl c3; have g3 := g 3 _ (by omega) rfl c4; rw [Nat.add_zero] at g0; unfold WO; rw [g0, g1, g2, g3]
 have r1 := h.r1
 have r2 := h.r2
 have s1 := h.s1
 have s2 := h.s2
 have p1 := h.p1
 have p2 := h.p2
 unfold pkS
 rw [hpts, h1, h2, h4, h5, hcol, vh 2 _ (by omega), vh 2 _ (by omega), vh 3 _ (by omega), vh 1 _ (by have := zfZ s; omega)]
 obtain ⟨ps, r, sp, c, er, ph⟩ := s
 simp only at r1 r2 s1 s2 p1 p2 ⊢
 have e1 : (decide (uv ⟨ps, r, sp, c, er, ph⟩ = 1)) = er := by unfold uv; cases er <;> rfl
 rw [e1]
 congr 1 <;> omega
theorem W7 {s : jb} (h : XM s) (hc : s.col.ok) : Zp (yX s) = (s, 0) := by
 have hb : yX s = jw s := if_pos ((xq s).2 h)
 have hp := zcc h hc
 have hn := K0 s (by have := h.l2; omega)
 unfold Zp
 rw [hb, hp, hn, JJ, if_neg (by omega), hb, if_pos rfl]
theorem Xd {l : List UInt8} (h : l.length < 13 + 7 * Zg l) : Zp l = (zSt, 10) := if_pos h
theorem zcj {l : List UInt8} (h : ¬ l.length < 13 + 7 * Zg l) (k : ¬ yX (XB l) = l) : Zp l = (zSt, 11) := by unfold Zp; rw [if_neg h, if_neg k]
theorem zgx {l : List UInt8} (h : ¬ l.length < 13 + 7 * Zg l) (k : yX (XB l) = l) : Zp l = (XB l, 0) := by unfold Zp; rw [if_neg h, if_pos k]
abbrev zAC := Int × Int
def ziC (p : zAC) : Bool := decide (p.1 < -65536 ∨ p.2 < -65536 ∨ 65536 < p.1 ∨ 65536 < p.2)
def zjT (l : List zAC) : Prop := ∀ p ∈ l, ziC p = false
def zfc (l : List zAC) : Bool := decide (3 ≤ l.length ∧ l.length ≤ 64) && l.all fun p => !ziC p
def ziy (a b : zAC) (u v : Int) : Bool := decide (a.2 ≤ v ∧ v < b.2 ∧ (u - a.1) * (b.2 - a.2) < (b.1 - a.1) * (v - a.2))
def crs (a b : zAC) (u v : Int) : Bool := if b.2 < a.2 then ziy b a u v else ziy a b u v
def pt8 (p : zAC) : zAC := (8 * p.1, 8 * p.2)
def ptG (l : List zAC) (i : Nat) : zAC := l.getD i (0, 0)
def ziB (l : List zAC) (u v : Int) (i : Nat) : Bool := crs (pt8 (ptG l i)) (pt8 (ptG l ((i + 1) % l.length))) u v
def ziQ (f : Nat → Bool) : Nat → Bool
 | 0 => false
 | k + 1 => Bool.xor (ziQ f k) (f k)
def zjq (l : List zAC) (u v : Int) : Bool := ziQ (ziB l u v) l.length
def zjx (l : List zAC) (x y : Int) (i : Nat) : Bool := zjq l (8 * x + 2 * ((i : Int) % 4) + 1) (8 * y + 2 * ((i : Int) / 4) + 1)
def zit (f : Nat → Bool) : Nat → Nat
 | 0 => 0
 | k + 1 => zit f k + (if f k = true then 1 else 0)
def zjf (n : Nat) : Int := (255 * (n : Int) + 8) / 16
def ziv (l : List zAC) (x y : Int) : Int := zjf (zit (zjx l x y) 16)
def zaM (r : Rc) (p : zAC) : Rc := ⟨min r.x0 p.1, min r.y0 p.2, max r.x1 p.1, max r.y1 p.2⟩
def ptR (p : zAC) : Rc := ⟨p.1, p.2, p.1, p.2⟩
def ziJ : List zAC → Rc
 | [] => Rc.zero
 | p :: r => r.foldl zaM (ptR p)
structure We (r : Rc) (l : List zAC) : Prop where
 h1 : ∀ p ∈ l, r.x0 ≤ p.1 ∧ p.1 ≤ r.x1 ∧ r.y0 ≤ p.2 ∧ p.2 ≤ r.y1
 l1 : ∃ p ∈ l, p.1 = r.x0
 l2 : ∃ p ∈ l, p.1 = r.x1
 l3 : ∃ p ∈ l, p.2 = r.y0
 l4 : ∃ p ∈ l, p.2 = r.y1
theorem We.grow {r : Rc} {l : List zAC} (h : We r l) (p : zAC) : We (zaM r p) (l ++ [p]) := by
 obtain ⟨h1, ⟨a, ha, ea⟩, ⟨b, hb, eb⟩, ⟨c, hc, ec⟩, ⟨d, hd, ed⟩⟩ := h
 have hp : p ∈ l ++ [p] := List.mem_append_right _ (List.mem_cons_self ..)
 have hl : ∀ {q}, q ∈ l → q ∈ l ++ [p] := fun hq => List.mem_append_left _ hq
 unfold zaM
 constructor
 ·intro q hq
  show min r.x0 p.1 ≤ q.1 ∧ q.1 ≤ max r.x1 p.1 ∧ min r.y0 p.2 ≤ q.2 ∧ q.2 ≤ max r.y1 p.2
  rcases List.mem_append.1 hq with hq | hq
  ·have := h1 q hq; omega
  ·obtain rfl : q = p := by simpa using hq
   omega
 ·show ∃ q ∈ l ++ [p], q.1 = min r.x0 p.1
  by_cases h : r.x0 ≤ p.1
  ·exact ⟨a, hl ha, by omega⟩
  ·exact ⟨p, hp, by omega⟩
 ·show ∃ q ∈ l ++ [p], q.1 = max r.x1 p.1
  by_cases h : p.1 ≤ r.x1
  ·exact ⟨b, hl hb, by omega⟩
  ·exact ⟨p, hp, by omega⟩
 ·show ∃ q ∈ l ++ [p], q.2 = min r.y0 p.2
  by_cases h : r.y0 ≤ p.2
  ·exact ⟨c, hl hc, by omega⟩
  ·exact ⟨p, hp, by omega⟩
 ·show ∃ q ∈ l ++ [p], q.2 = max r.y1 p.2
  by_cases h : p.2 ≤ r.y1
  ·exact ⟨d, hl hd, by omega⟩
  ·exact ⟨p, hp, by omega⟩
def zjP (l : List zAC) (k : Nat) : Rc := (l.take k).foldl zaM (ptR (ptG l 0))
def zhp (l : List zAC) : Rc := if zfc l = true then kR (ziJ l) else Rc.zero
def zjg (l : List zAC) (x y : Int) : Int := if jx (zhp l) x y = true then ziv l x y else 0
def zjh (l : List zAC) (x y : Int) : Int := if zfc l = true ∧ -70000 ≤ x ∧ -70000 ≤ y ∧ x ≤ 70000 ∧ y ≤ 70000 then ziv l x y else 0
def shp (d : zAC) (p : zAC) : zAC := (p.1 + d.1, p.2 + d.2)
def zkz (l : List zAC) (k : Nat) (d : zAC) : List zAC := (List.range l.length).map fun i => shp d (ptG l ((i + k) % l.length))
def zky (l : List zAC) (k : Nat) : List zAC := (List.range l.length).map fun i => ptG l ((l.length + k - i) % l.length)
def ziN (q : List Int) (i : Nat) : Int := q.getD i 0
def ziS (q : List Int) : Nat := min (q.length / 2) 12
def ziT (q : List Int) (j : Nat) : zAC := (ziN q (2 * j) % 28 - 8, ziN q (2 * j + 1) % 28 - 8)
def ziR (q : List Int) (k : Nat) : List zAC := (List.range k).map (ziT q)
def zjW (q : List Int) : List zAC := ziR q (ziS q)
section
variable {P : Program} {ops : Array Oper} {Q : Exit → Act → World → Prop} {w : World}
theorem Wa {g : FuncId} {x : Operand} {xs : Array Operand} {ats : Array TypeId} {o : Oper} {a : Act} {K : Act → World → Prop} {vals lb : Array Value} (ho : o.op = .call { callee := .value x, args := xs, argTypes := ats }) (hx : a.eval x = .func (.func g) #[] lb) (eg : Go.Proofs.Enters P g) (hv : xs.map a.eval = vals)
  (h : Calls P g (vals ++ lb) w fun e w' => ∃ v, e = .returned v ∧ K (a.put o.dst v) w') : o.wp P a w K Q := by
 subst hv
 obtain ⟨dst, op, ty, pos, after, guard⟩ := o
 simp only at ho
 subst ho
 unfold Oper.wp
 have key : ∀ ρ : Operand → Value, ρ x = .func (.func g) #[] lb → (execOp ρ { dst, op := .call { callee := .value x, args := xs, argTypes := ats }, type := ty, pos, after, guard : Oper }).run P w = .ok (.enter g (xs.map ρ ++ lb)) w := fun ρ hρ => by
  have := eg (xs.map ρ ++ lb) w; simp [go_sem, hρ, this]
 rw [key a.eval hx]
 exact Calls.mono h fun e w' ⟨v, he, hk⟩ => by subst he; exact hk
theorem je {g : FuncId} {x : Operand} {xs : Array Operand} {ats : Array TypeId} {o : Oper} {r : List Oper} {a : Act} {vals lb : Array Value} (hw : Region.wanted o (yielded ops a.tmps) = true) (ho : o.op = .call { callee := .value x, args := xs, argTypes := ats }) (hx : a.eval x = .func (.func g) #[] lb) (eg : Go.Proofs.Enters P g) (hv : xs.map a.eval = vals)
  (h : Calls P g (vals ++ lb) w fun e w' => ∃ v, e = .returned v ∧ wpList P ops Q r (a.put o.dst v) w') : wpList P ops Q (o :: r) a w := by
 unfold wpList
 rw [if_pos hw]
 exact .inl (Wa ho hx eg hv h)
end
theorem kU (x : Int) (b : Bool) (w : World) (e : vk x = b) : Calls Tryz.prog 53 #[.int .i64 x] w fun e w' => e = .returned (.bool b) ∧ Below w.heap.size w w' := by
 by_cases h0 : -1048576 ≤ x
 ·by_cases h1 : x < 1048576
  ·obtain rfl : b = true := by rw [← e]; unfold vk; exact zQ (by omega)
   have d0 : decide (-1048576 ≤ x) = true := zQ h0; have d1 : decide (x < 1048576) = true := zQ h1; clear e; go_enter func53, ntmps53
   go_wp2; go_ret; exact ⟨rfl, by go_grown⟩
  ·obtain rfl : b = false := by rw [← e]; unfold vk; exact zB (by omega)
   have d0 : decide (-1048576 ≤ x) = true := zQ h0; have d1 : decide (x < 1048576) = false := zB h1; clear e; go_enter func53, ntmps53
   go_wp2; go_ret; exact ⟨rfl, by go_grown⟩
 ·obtain rfl : b = false := by rw [← e]; unfold vk; exact zB (by omega)
  have d0 : decide (-1048576 ≤ x) = false := zB h0; clear e; go_enter func53, ntmps53
  go_wp2; go_ret; exact ⟨rfl, by go_grown⟩
theorem xi (x : Int) (b : Bool) (w : World) (e : vk x = b) : Calls Tryz.prog 55 #[.int .i64 x] w fun e w' => e = .returned (.bool b) ∧ Below w.heap.size w w' := by
 by_cases h0 : -1048576 ≤ x
 ·by_cases h1 : x ≤ 1048575
  ·obtain rfl : b = true := by rw [← e]; unfold vk; exact zQ (by omega)
   have d0 : decide (-1048576 ≤ x) = true := zQ h0; have d1 : decide (x ≤ 1048575) = true := zQ h1; clear e; go_enter func55, ntmps55
   go_wp2; go_ret; exact ⟨rfl, by go_grown⟩
  ·obtain rfl : b = false := by rw [← e]; unfold vk; exact zB (by omega)
   have d0 : decide (-1048576 ≤ x) = true := zQ h0; have d1 : decide (x ≤ 1048575) = false := zB h1; clear e; go_enter func55, ntmps55
   go_wp2; go_ret; exact ⟨rfl, by go_grown⟩
 ·obtain rfl : b = false := by rw [← e]; unfold vk; exact zB (by omega)
  have d0 : decide (-1048576 ≤ x) = false := zB h0; clear e; go_enter func55, ntmps55
  go_wp2; go_ret; exact ⟨rfl, by go_grown⟩
theorem zhV {n : Nat} {l : Nat} : (decide ((n : Int) < ((l : Int) + 1) * ((l : Int) + 1))) = decide (sqN n ≤ l) := by
 rw [Bool.eq_iff_iff, decide_eq_true_iff, decide_eq_true_iff]
 have h := WF (n := n) (s := l + 1)
 have e : ((l : Int) + 1) * ((l : Int) + 1) = (((l + 1) * (l + 1) : Nat) : Int) := by rw [Int.natCast_mul]; rfl
 rw [e]
 omega
theorem Yc {n : Nat} (h : n < 17592186044416) : sqN n < 4194304 := by
 rcases Nat.lt_or_ge (sqN n) 4194304 with k | k
 ·exact k
 ·have := WF.1 k
  omega
theorem zc8 (l n : Nat) (b : Nat) (r : Bool) (w : World) (n1 : zw 3 w b #[.int .i64 (n : Int)]) (hl : l ≤ 4194304) (e : decide (sqN n ≤ l) = r) : Calls Tryz.prog 156 #[.int .i64 (l : Int), .pointer (some ⟨b, 0, none⟩)] w fun e w' => e = .returned (.bool r) ∧ Below w.heap.size w w' := by
 have B := Below.refl w.heap.size w
 have hm := jX (a := (l : Int) + 1) (b := (l : Int) + 1) (m := 4194305) (k := 4194305) (by omega) (by omega) (by omega) (by omega)
 rw [← zhV] at e
 have E := zo e
 clear e
 go_enter func156, ntmps156
 go_upto_region 1 with fail
 refine zS 8 ?_
 go_wp2
 go_ret
 exact ⟨by (rw [← E.out]) <;> rfl, B⟩
theorem Wm (n : Nat) (b : Nat) (w : World) (n1 : zw 3 w b #[.int .i64 (n : Int)]) (hn : n < 17592186044416) : Calls Tryz.prog 155 #[.int .i64 4194304, .func (.func 156) #[] #[.pointer (some ⟨b, 0, none⟩)]] w fun e w' => e = .returned (.int .i64 (sqN n : Nat)) ∧ Below w.heap.size w w' := by
 have B := Below.refl w.heap.size w
 have hs := Yc hn
 obtain ⟨s, hsq⟩ : ∃ s, sqN n = s := ⟨_, rfl⟩
 rw [hsq] at hs ⊢
 have HSQ := zo hsq
 have N1 := zo n1
 clear hsq n1
 go_enter func155, ntmps155
 go_upto_region 1 with fail
 refine zS 3 ?_
 go_wp2
 go_loopw [5, 6, 7] (fun i j _ wr => ∃ p q : Nat, p ≤ s ∧ s ≤ q ∧ q ≤ 4194304 ∧ i = .int .i64 (p : Int) ∧ j = .int .i64 (q : Int) ∧ Below w.heap.size w wr) (fun i j _ _ => (intOf j - intOf i).toNat)
 case atStart => exact ⟨0, 4194304, by omega, by omega, Nat.le_refl _, rfl, rfl, B⟩
 case round =>
  clear B; obtain ⟨p, q, h1, h2, h3, rfl, rfl, B⟩ := hrel; have n1 := N1.out.of_eq (B.block _ N1.out.lt); by_cases hpq : p < q
  ·have q1 : decide ((p : Int) < (q : Int)) = true := zQ (by omega)
   have q2 : decide (p < q) = true := zQ hpq; by_cases hcut : (p + q) / 2 < s
   ·have hm : (p + q) / 2 ≤ 4194304 := by omega
    obtain ⟨m, hmm⟩ : ∃ m, (p + q) / 2 = m := ⟨_, rfl⟩; have HQ := zo (show decide (sqN n ≤ m) = false from by rw [HSQ.out, ← hmm]; exact zB (by omega))
    have hmi : ((p : Int) + (q : Int)) / 2 = (m : Int) := by omega
    rw [hmm] at hm hcut; have hmq : m < q := by omega
    clear hmm; go_upto_region 2 with fail
    refine zS 3 ?_; go_upto_region 3 with fail
    refine zS 7 ?_; try rw [hmi]
    go_upto_region 4 with fail
    refine qz 2 ?_; refine je (by first | rfl | simp [Region.wanted, yielded]) rfl (by simp only [Act.eval, yj]; rfl) (zE func156) (by simp only [Act.eval, yj]; rfl) ?_
    refine (zc8 m n b false _ n1 hm HQ.out).mono ?_; rintro e wn ⟨rfl, za⟩; obtain ⟨zf, zg, B⟩ := zM B za
    replace n1 := n1.be za
    refine ⟨_, rfl, ?_⟩; simp only [zn]; refine z7 1 ?_; go_upto_region 5 with fail
    refine zS 3 ?_; go_wp2; go_roundw
    case rel => exact ⟨m + 1, q, by omega, h2, h3, by go_num, rfl, B⟩
    case measure => simp [intOf]; omega
   ·have hm : (p + q) / 2 ≤ 4194304 := by omega
    obtain ⟨m, hmm⟩ : ∃ m, (p + q) / 2 = m := ⟨_, rfl⟩; have HQ := zo (show decide (sqN n ≤ m) = true from by rw [HSQ.out, ← hmm]; exact zQ (by omega))
    have hmi : ((p : Int) + (q : Int)) / 2 = (m : Int) := by omega
    rw [hmm] at hm hcut; have hmq : p ≤ m ∧ m < q := by omega
    clear hmm; go_upto_region 2 with fail
    refine zS 3 ?_; go_upto_region 3 with fail
    refine zS 7 ?_; try rw [hmi]
    go_upto_region 4 with fail
    refine qz 2 ?_; refine je (by first | rfl | simp [Region.wanted, yielded]) rfl (by simp only [Act.eval, yj]; rfl) (zE func156) (by simp only [Act.eval, yj]; rfl) ?_
    refine (zc8 m n b true _ n1 hm HQ.out).mono ?_; rintro e wn ⟨rfl, za⟩; obtain ⟨zf, zg, B⟩ := zM B za; refine ⟨_, rfl, ?_⟩; simp only [zn]; refine z7 1 ?_; go_upto_region 6 with fail
    refine zS 2 ?_; go_wp2; go_roundw
    case rel => exact ⟨p, m, h1, by omega, by omega, rfl, rfl, B⟩
    case measure => simp [intOf]; omega
  ·obtain rfl : p = s := by omega
   obtain rfl : q = p := by omega
   go_wp2; go_ret; exact ⟨rfl, B⟩
theorem za0 (a b : Sp) : Z4 a b = (((Z4 a b).toNat : Nat) : Int) := by
 have h : 0 ≤ Z4 a b := by
  have h1 := VU (b.x - a.x); have h2 := VU (b.y - a.y); unfold Z4; omega
 omega
theorem KJ (a b : Sp) (t : Int) (w : World) (ha : Q6 a) (hb : Q6 b) (e : kt a b = t) : Calls Tryz.prog 107 #[.agg (jf.enc a), .agg (jf.enc b)] w fun e w' => e = .returned (.int .i64 t) ∧ Below w.heap.size w w' := by
 have B := Below.refl w.heap.size w
 obtain ⟨a1, a2, a3, a4, _, _⟩ := id ha
 obtain ⟨b1, b2, b3, b4, _, _⟩ := id hb
 have m1 := Zu (x := b.x - a.x) (m := 2097151) (by omega) (by omega)
 have m2 := Zu (x := b.y - a.y) (m := 2097151) (by omega) (by omega)
 have hq := YS ha hb
 have HN := zo (show (b.x - a.x) * (b.x - a.x) + (b.y - a.y) * (b.y - a.y) = (((Z4 a b).toNat : Nat) : Int) from za0 a b)
 obtain ⟨n, hn⟩ : ∃ n, (Z4 a b).toNat = n := ⟨_, rfl⟩
 have HS := zo (show ((sqN n : Nat) : Int) = t from by rw [← e]; unfold kt; rw [hn])
 have hn2 : n < 17592186044416 := by omega
 rw [hn] at HN
 clear e ha hb hq hn
 go_enter func107, ntmps107
 go_upto_region 0 with fail
 refine wp_region_lit ?_
 (refine jd (t := 43) B ?_; clear B; intro b_r2 wn zb zd r2 za zf zk B)
 (refine jd (t := 43) B ?_; clear B; intro b_r3 wn zb zd r3 za zf zk B; replace r2 := r2.be za)
 refine z7 1 ?_
 go_upto_region 1 with fail
 refine zA 12 [] (by kernel_rfl) (by kernel_rfl) (by kernel_rfl) ?_
 rotate_left 0
 simp only [jS, Nat.reduceAdd]
 refine vi 12 ?_
 refine qi ?_
 intro wn za hE
 obtain ⟨zf, zg, B⟩ := zM B za
 clear hE
 try simp only [List.drop_succ_cons, List.drop_zero]
 refine zI.normal ?_
 go_upto_region 2 with fail
 refine qz 7 ?_
 (refine jH (t := 3) (VN _ _ rfl) B ?_; clear B; intro b_n7 wn zb zd n7 za zf zk B)
 (refine xr (t := 3) rfl _ _ rfl _ 0 rfl _ rfl n7 rfl (xV B (by omega) ?_); clear n7 B; intro wn n7 ze zf zg B; simp only [zn])
 refine wpList_nil ?_
 replace n7 : zw 3 _ b_n7 #[.int .i64 ((b.x - a.x) * (b.x - a.x) + (b.y - a.y) * (b.y - a.y))] := n7
 rw [HN.out] at n7
 go_upto_region 3 with fail
 refine wp_region_lit ?_
 (refine qH rfl (.func (.func 156) #[] #[.pointer (some ⟨b_n7, 0, none⟩)]) (by first | rfl | simp [go_sem, Act.eval]) ?_; simp only [zn])
 refine qe B (zE func155) (c := Wm n b_n7 _ n7 hn2) ?_
 clear B
 intro wn za zf zg B
 refine z7 1 ?_
 go_wp2
 go_ret
 exact ⟨by (rw [HS.out]) <;> rfl, B⟩
theorem Jy (a b : Sp) (t : Int) (w : World) (ha : Q6 a) (hb : Q6 b) (e : kt a b = t) : Calls Tryz.prog 60 #[.agg (jf.enc a), .agg (jf.enc b)] w fun e w' => e = .returned (.int .i64 t) ∧ Below w.heap.size w w' := by
 have B := Below.refl w.heap.size w
 obtain ⟨a1, a2, a3, a4, _, _⟩ := id ha
 obtain ⟨b1, b2, b3, b4, _, _⟩ := id hb
 have m1 := Zu (x := b.x - a.x) (m := 2097151) (by omega) (by omega)
 have m2 := Zu (x := b.y - a.y) (m := 2097151) (by omega) (by omega)
 have hq := YS ha hb
 have HN := zo (show (b.x - a.x) * (b.x - a.x) + (b.y - a.y) * (b.y - a.y) = (((Z4 a b).toNat : Nat) : Int) from za0 a b)
 obtain ⟨n, hn⟩ : ∃ n, (Z4 a b).toNat = n := ⟨_, rfl⟩
 have HS := zo (show ((sqN n : Nat) : Int) = t from by rw [← e]; unfold kt; rw [hn])
 have hn2 : n < 17592186044416 := by omega
 rw [hn] at HN
 have hs := Yc hn2
 obtain ⟨s, hsq⟩ : ∃ s, sqN n = s := ⟨_, rfl⟩
 rw [hsq] at hs HS
 have HSQ := zo hsq
 clear e ha hb hq hn hsq
 go_enter func60, ntmps60
 go_upto_region 0 with fail
 refine wp_region_lit ?_
 (refine jd (t := 43) B ?_; clear B; intro b_r2 wn zb zd r2 za zf zk B)
 (refine jd (t := 43) B ?_; clear B; intro b_r3 wn zb zd r3 za zf zk B; replace r2 := r2.be za)
 refine z7 1 ?_
 go_upto_region 1 with fail
 refine zS 24 ?_
 rw [HN.out]
 clear r2 r3
 go_wp2
 go_loopw [6, 7, 8] (fun i j _ wr => ∃ p q : Nat, p ≤ s ∧ s ≤ q ∧ q ≤ 4194304 ∧ i = .int .i64 (p : Int) ∧ j = .int .i64 (q : Int) ∧ Below w.heap.size w wr) (fun i j _ _ => (intOf j - intOf i).toNat)
 case atStart => exact ⟨0, 4194304, by omega, by omega, Nat.le_refl _, rfl, rfl, B⟩
 case round =>
  clear B; obtain ⟨p, q, h1, h2, h3, rfl, rfl, B⟩ := hrel; by_cases hpq : p < q
  ·have q1 : decide ((p : Int) < (q : Int)) = true := zQ (by omega)
   have q2 : decide (p < q) = true := zQ hpq; obtain ⟨m, hmm⟩ : ∃ m, (p + q + 1) / 2 = m := ⟨_, rfl⟩; have hmi : ((p : Int) + (q : Int) + 1) / 2 = (m : Int) := by omega
   have hmb : p < m ∧ m ≤ q ∧ 1 ≤ m := by omega
   have mm := jX (a := (m : Int)) (b := (m : Int)) (m := 4194304) (k := 4194304) (by omega) (by omega) (by omega) (by omega); have zb : ((m : Int) * (m : Int) ≤ (n : Int)) ↔ m ≤ s := by
    rw [← HSQ.out, WF, ← Int.natCast_mul]; omega
   clear hmm; by_cases hcut : m ≤ s
   ·have q3 : decide ((m : Int) * (m : Int) ≤ (n : Int)) = true := zQ (by rw [zb]; exact hcut)
    clear zb; go_upto_region 4 with fail
    refine zS 3 ?_; go_upto_region 5 with fail
    refine zS 6 ?_; try rw [hmi]
    go_upto_region 6 with fail
    refine zS 5 ?_; go_upto_region 7 with fail
    refine zS 2 ?_; go_wp2; go_roundw
    case rel => exact ⟨m, q, hcut, h2, h3, rfl, rfl, B⟩
    case measure => simp [intOf]; omega
   ·have q3 : decide ((m : Int) * (m : Int) ≤ (n : Int)) = false := zB (by rw [zb]; exact hcut)
    clear zb; go_upto_region 4 with fail
    refine zS 3 ?_; go_upto_region 5 with fail
    refine zS 6 ?_; try rw [hmi]
    go_upto_region 6 with fail
    refine zS 5 ?_; go_upto_region 8 with fail
    refine zS 3 ?_; go_wp2; go_roundw
    case rel => exact ⟨p, m - 1, h1, by omega, by omega, rfl, by go_num, B⟩
    case measure => simp [intOf]; omega
  ·obtain rfl : p = s := by omega
   obtain rfl : q = p := by omega
   go_wp2; go_ret; exact ⟨by (rw [← HS.out]) <;> rfl, B⟩
theorem VA {l : List Sp} {k : Nat} {s t u : Int} (h : jK l k = s) (ht : kt (jc l k) (jc l (k + 1)) = t) (hu : s + t = u) : jK l (k + 1) = u := by
 show jK l k + kt (jc l k) (jc l (k + 1)) = u
 rw [h, ht, hu]
theorem zat (v : Value) (l : List Sp) (t : Int) (w : World) (rs : xh jf v l w) (hn : l.length ≤ 64) (hok : ∀ a ∈ l, Q6 a) (e : yn l = t) : Calls Tryz.prog 54 #[v] w fun e w' => e = .returned (.int .i64 t) ∧ Below w.heap.size w w' := by
 have B := Below.refl w.heap.size w
 obtain ⟨a, c, rfl, hc⟩ := rs.len
 have HS := zo rs
 have HOK := zo hok
 have HE := zo e
 clear rs hok e
 go_enter func54, ntmps54
 go_upto_region 2 with fail
 refine zS 1 ?_
 go_wp2
 go_loopw [3, 4] (fun sv iv wr => ∃ (k : Nat) (s : Int), (k = 0 ∨ k < l.length) ∧ Hid (jK l k = s) ∧ sv = .int .i64 s ∧ iv = .int .i64 ((k : Int) + 1) ∧ Below w.heap.size w wr) (fun _ iv _ => (l.length - intOf iv).toNat)
 case atStart => exact ⟨0, 0, .inl rfl, zo rfl, rfl, rfl, B⟩
 case round =>
  clear B; obtain ⟨k, s, hk, HP, rfl, rfl, B⟩ := hrel; by_cases hkl : k + 1 < l.length
  ·have q1 : decide ((k : Int) + 1 < (l.length : Int)) = true := zQ (by omega)
   have q2 : decide (k + 1 < l.length) = true := zQ hkl; obtain ⟨g, o, rfl, pc0⟩ := HS.out.at (by omega); have pc := pc0.of_eq (B.block _ pc0.lt); clear pc0; have hk0 : k < l.length := by omega
   have q3 : decide (k < l.length) = true := zQ hk0; have hp := qG hk0; have hp2 := qG hkl; have A1 := zo (HOK.out _ (List.mem_of_getElem? hp)); have A2 := zo (HOK.out _ (List.mem_of_getElem? hp2)); obtain ⟨t2, ht2⟩ : ∃ t, kt (jc l k) (jc l (k + 1)) = t := ⟨_, rfl⟩; have bd1 := Zc HOK.out k (.inl hk0); have bd0 := wZ l k; have bd2 := Z3 A1.out A2.out; have bd3 := YtepelndbbhdofaaGreatDoor.u9 (jc l k) (jc l (k + 1)); rw [HP.out] at bd1 bd0; rw [ht2] at bd2 bd3; have HST := zo (VA HP.out ht2 rfl); have HT2 := zo ht2; have hkb : (k : Int) < 64 := by omega
   clear ht2
   generalize hx1 : jc l k = x1 at *
   generalize hx2 : jc l (k + 1) = x2 at *
   clear hx1 hx2; go_upto_region 3 with fail
   refine qz 2 ?_; refine j1 underlying26 ?_; refine z7 1 ?_; go_upto_region 5 with fail
   refine zA 13 [(10, zF ?v2_10)] (by kernel_rfl) (by kernel_rfl) (by kernel_rfl) ?_
   rotate_left 1
   simp only [jS, Nat.reduceAdd]; refine vV 10 ?_; repeat (first | go_big_quiet_skip | (go_big_quiet_want; first | ((first | refine zq (fun w hw => (qD pc w hw).load isAgg43 hp) ?_ | refine zq (fun w hw => (qD pc w hw).load isAgg43 hp2) ?_ | refine qB ?_ | refine qC ?_); simp only [zn]; go_big_quiet_on) | (go_big_quiet_op; go_big_quiet_on)))
   refine wpQuiet_nil ?_; refine zcB ?_ ?_
   ·intro wn za hE Kx hKx
    obtain ⟨zf, zg, B⟩ := zM B za; refine zcF func107 ?_
    refine (KJ x1 x2 t2 wn A1.out A2.out HT2.out).mono ?_; rintro e wm ⟨rfl, zl⟩; refine ⟨_, rfl, ?_⟩; have hz := hKx () wm trivial zl
    dsimp only [zF] at hz
    exact hz
   rintro ⟨⟩
   dsimp only [zF]
   simp only [zn]; refine vi 2 ?_; refine qi ?_; intro wn za hE; obtain ⟨zf, zg, B⟩ := zM B za; clear hE; try simp only [List.drop_succ_cons, List.drop_zero]
   refine zI.normal ?_; go_upto_region 4 with fail
   refine zS 3 ?_; go_wp2; go_roundw
   case rel => exact ⟨k + 1, s + t2, .inr hkl, HST, rfl, by go_num, B⟩
   case measure => simp [intOf]; omega
  ·have q1 : decide ((k : Int) + 1 < (l.length : Int)) = false := zB (by omega)
   have q2 : decide (k + 1 < l.length) = false := zB hkl; have HF := zo (show s = t from by
    rw [← HE.out, ← HP.out]; unfold yn
    congr 1
    omega)
   go_upto_region 3 with fail
   refine qz 2 ?_; refine j1 underlying26 ?_; refine z7 1 ?_; go_wp2; go_ret; exact ⟨by (rw [HF.out]) <;> rfl, B⟩
theorem zax (v : Value) (l : List Sp) (t : Int) (w : World) (rs : xh jf v l w) (hn : l.length ≤ 64) (hok : ∀ a ∈ l, Q6 a) (e : yn l = t) : Calls Tryz.prog 56 #[v] w fun e w' => e = .returned (.int .i64 t) ∧ Below w.heap.size w w' := by
 have B := Below.refl w.heap.size w
 obtain ⟨a, c, rfl, hc⟩ := rs.len
 have HS := zo rs
 have HOK := zo hok
 have HE := zo e
 clear rs hok e
 go_enter func56, ntmps56
 go_upto_region 2 with fail
 refine zS 1 ?_
 go_wp2
 go_loopw [3, 4] (fun sv iv wr => ∃ (k : Nat) (s : Int), (k = 0 ∨ k < l.length) ∧ Hid (jK l k = s) ∧ sv = .int .i64 s ∧ iv = .int .i64 ((k : Int) + 1) ∧ Below w.heap.size w wr) (fun _ iv _ => (l.length - intOf iv).toNat)
 case atStart => exact ⟨0, 0, .inl rfl, zo rfl, rfl, rfl, B⟩
 case round =>
  clear B; obtain ⟨k, s, hk, HP, rfl, rfl, B⟩ := hrel; by_cases hkl : k + 1 < l.length
  ·have q1 : decide ((k : Int) + 1 < (l.length : Int)) = true := zQ (by omega)
   have q2 : decide (k + 1 < l.length) = true := zQ hkl; obtain ⟨g, o, rfl, pc0⟩ := HS.out.at (by omega); have pc := pc0.of_eq (B.block _ pc0.lt); clear pc0; have hk0 : k < l.length := by omega
   have q3 : decide (k < l.length) = true := zQ hk0; have hp := qG hk0; have hp2 := qG hkl; have A1 := zo (HOK.out _ (List.mem_of_getElem? hp)); have A2 := zo (HOK.out _ (List.mem_of_getElem? hp2)); obtain ⟨t2, ht2⟩ : ∃ t, kt (jc l k) (jc l (k + 1)) = t := ⟨_, rfl⟩; have bd1 := Zc HOK.out k (.inl hk0); have bd0 := wZ l k; have bd2 := Z3 A1.out A2.out; have bd3 := YtepelndbbhdofaaGreatDoor.u9 (jc l k) (jc l (k + 1)); rw [HP.out] at bd1 bd0; rw [ht2] at bd2 bd3; have HST := zo (VA HP.out ht2 rfl); have HT2 := zo ht2; have hkb : (k : Int) < 64 := by omega
   clear ht2
   generalize hx1 : jc l k = x1 at *
   generalize hx2 : jc l (k + 1) = x2 at *
   clear hx1 hx2; go_upto_region 3 with fail
   refine qz 2 ?_; refine j1 underlying26 ?_; refine z7 1 ?_; go_upto_region 5 with fail
   refine zA 13 [(10, zF ?v3_10)] (by kernel_rfl) (by kernel_rfl) (by kernel_rfl) ?_
   rotate_left 1
   simp only [jS, Nat.reduceAdd]; refine vV 10 ?_; repeat (first | go_big_quiet_skip | (go_big_quiet_want; first | ((first | refine zq (fun w hw => (qD pc w hw).load isAgg43 hp) ?_ | refine zq (fun w hw => (qD pc w hw).load isAgg43 hp2) ?_ | refine qB ?_ | refine qC ?_); simp only [zn]; go_big_quiet_on) | (go_big_quiet_op; go_big_quiet_on)))
   refine wpQuiet_nil ?_; refine zcB ?_ ?_
   ·intro wn za hE Kx hKx
    obtain ⟨zf, zg, B⟩ := zM B za; refine zcF func60 ?_
    refine (Jy x1 x2 t2 wn A1.out A2.out HT2.out).mono ?_; rintro e wm ⟨rfl, zl⟩; refine ⟨_, rfl, ?_⟩; have hz := hKx () wm trivial zl
    dsimp only [zF] at hz
    exact hz
   rintro ⟨⟩
   dsimp only [zF]
   simp only [zn]; refine vi 2 ?_; refine qi ?_; intro wn za hE; obtain ⟨zf, zg, B⟩ := zM B za; clear hE; try simp only [List.drop_succ_cons, List.drop_zero]
   refine zI.normal ?_; go_upto_region 4 with fail
   refine zS 3 ?_; go_wp2; go_roundw
   case rel => exact ⟨k + 1, s + t2, .inr hkl, HST, rfl, by go_num, B⟩
   case measure => simp [intOf]; omega
  ·have q1 : decide ((k : Int) + 1 < (l.length : Int)) = false := zB (by omega)
   have q2 : decide (k + 1 < l.length) = false := zB hkl; have HF := zo (show s = t from by
    rw [← HE.out, ← HP.out]; unfold yn
    congr 1
    omega)
   go_upto_region 3 with fail
   refine qz 2 ?_; refine j1 underlying26 ?_; refine z7 1 ?_; go_wp2; go_ret; exact ⟨by (rw [HF.out]) <;> rfl, B⟩
def Zz (a : Sp) : Bool := !decide (Q6 a)
theorem Wv (a : Sp) : Zz a = (!vk a.x || (!vk a.y || (decide (a.p < 0) || decide (255 < a.p)))) := by
 have h1 : Zz a = true ↔ ¬ Q6 a := by unfold Zz; rw [Bool.not_eq_true', decide_eq_false_iff_not]
 have h2 : ∀ x, (!vk x) = true ↔ ¬ (-1048576 ≤ x ∧ x ≤ 1048575) := fun x => by unfold vk; rw [Bool.not_eq_true', decide_eq_false_iff_not]
 rw [Bool.eq_iff_iff, h1, Bool.or_eq_true, Bool.or_eq_true, Bool.or_eq_true, h2, h2, decide_eq_true_iff, decide_eq_true_iff]
 unfold Q6
 omega
def idxS (l : List Sp) : Nat := l.findIdx Zz
theorem Z1 (l : List Sp) : idxS l ≤ l.length := List.findIdx_le_length
theorem YO {l : List Sp} {k : Nat} (h : k < idxS l) : Zz (jc l k) = false := by
 have hk : k < l.length := Nat.lt_of_lt_of_le h (Z1 l)
 have := List.not_of_lt_findIdx (p := Zz) (xs := l) h
 have e := qG hk
 rw [List.getElem?_eq_getElem hk] at e
 rw [← Option.some.inj e]
 simpa using this
theorem YN {l : List Sp} (h : idxS l < l.length) : Zz (jc l (idxS l)) = true := by
 have := List.findIdx_getElem (p := Zz) (xs := l) (w := h)
 have e := qG h
 rw [List.getElem?_eq_getElem h] at e
 rw [← Option.some.inj e]
 exact this
theorem zen (l : List Sp) : ul l = true ↔ idxS l = l.length := by
 unfold ul
 rw [decide_eq_true_iff]
 constructor
 ·intro h
  rcases Nat.lt_or_ge (idxS l) l.length with k | k
  ·have h1 := YN k
   unfold Zz at h1; rw [decide_eq_true (h _ (List.mem_of_getElem? (qG k)))] at h1; cases h1
  ·have := Z1 l
   omega
 ·intro h a ha
  obtain ⟨k, hk⟩ := List.mem_iff_getElem?.1 ha; have hkl : k < l.length := (List.getElem?_eq_some_iff.1 hk).1; have h1 := YO (l := l) (k := k) (by omega); rw [qG hkl] at hk; obtain rfl := Option.some.inj hk; unfold Zz at h1
  simpa using h1
theorem zgL (a : Sp) (b : Bool) (w : World) (e : Zz a = b) : Calls Tryz.prog 52 #[.agg (jf.enc a)] w fun e w' => e = .returned (.bool b) ∧ Below w.heap.size w w' := by
 have B := Below.refl w.heap.size w
 rw [Wv] at e
 obtain ⟨i1, hi1⟩ : ∃ i, vk a.x = i := ⟨_, rfl⟩
 obtain ⟨i2, hi2⟩ : ∃ i, vk a.y = i := ⟨_, rfl⟩
 obtain ⟨i3, hi3⟩ : ∃ i, decide (a.p < 0) = i := ⟨_, rfl⟩
 obtain ⟨i4, hi4⟩ : ∃ i, decide (255 < a.p) = i := ⟨_, rfl⟩
 rw [hi1, hi2, hi3, hi4] at e
 have H1 := zo hi1
 have H2 := zo hi2
 clear hi1 hi2
 cases i1 with
 | false =>
  obtain rfl : b = true := by rw [← e]; rfl
  clear e; go_enter func52, ntmps52
  go_upto_region 0 with fail
  refine wp_region_lit ?_
  (refine jd (t := 43) B ?_; clear B; intro b_r1 wn zb zd r1 za zf zk B)
  refine z7 1 ?_; go_upto_region 1 with fail
  refine qz 2 ?_
  refine qe B (zE func53) (c := kU a.x false _ H1.out) ?_; clear B; intro wn za zf zg B
  replace r1 := r1.be za; refine jL 4 ?_
  refine qm ?hs2_7 ?_
  case hs2_7 => kernel_rfl
  simp only [zn]; refine z7 13 ?_; go_wp2; go_ret; exact ⟨rfl, B⟩
 | true =>
  cases i2 with
  | false =>
   obtain rfl : b = true := by rw [← e]; rfl
   clear e; go_enter func52, ntmps52
   go_upto_region 0 with fail
   refine wp_region_lit ?_
   (refine jd (t := 43) B ?_; clear B; intro b_r1 wn zb zd r1 za zf zk B)
   refine z7 1 ?_; go_upto_region 1 with fail
   refine qz 2 ?_
   refine qe B (zE func53) (c := kU a.x true _ H1.out) ?_; clear B; intro wn za zf zg B
   replace r1 := r1.be za; refine jL 4 ?_
   refine qe B (zE func53) (c := kU a.y false _ H2.out) ?_; clear B; intro wn za zf zg B
   replace r1 := r1.be za; refine z7 13 ?_; go_wp2; go_ret; exact ⟨rfl, B⟩
  | true =>
   obtain rfl : b = (i3 || i4) := by rw [← e]; cases i3 <;> cases i4 <;> rfl
   clear e; cases i3 <;> cases i4 <;> (
    go_enter func52, ntmps52
    go_upto_region 0 with fail
    refine wp_region_lit ?_
    (refine jd (t := 43) B ?_; clear B; intro b_r1 wn zb zd r1 za zf zk B)
    refine z7 1 ?_; go_upto_region 1 with fail
    refine qz 2 ?_
    refine qe B (zE func53) (c := kU a.x true _ H1.out) ?_; clear B; intro wn za zf zg B
    replace r1 := r1.be za; refine jL 4 ?_
    refine qe B (zE func53) (c := kU a.y true _ H2.out) ?_; clear B; intro wn za zf zg B
    replace r1 := r1.be za; refine z7 13 ?_; go_wp2; go_ret; exact ⟨rfl, B⟩)
theorem Ky (v : Value) (l : List Sp) (r : Int) (w : World) (rs : xh jf v l w) (hn : l.length ≤ 17592186044416) (e : (if idxS l < l.length then (idxS l : Int) else -1) = r) : Calls Tryz.prog 106 #[v, .func (.func 52) #[] #[]] w fun e w' => e = .returned (.int .i64 r) ∧ Below w.heap.size w w' := by
 have B := Below.refl w.heap.size w
 obtain ⟨a, c, rfl, hc⟩ := rs.len
 have HS := zo rs
 have zb := Z1 l
 obtain ⟨m, hm⟩ : ∃ m, idxS l = m := ⟨_, rfl⟩
 have HLT := zo (fun k (h : k < idxS l) => YO h)
 have HAT := zo (fun (h : idxS l < l.length) => YN h)
 rw [hm] at zb e HLT HAT
 have HE := zo e
 clear rs e hm
 go_enter func106, ntmps106
 go_upto_region 1 with fail
 refine qz 1 ?_
 refine j1 underlying26 ?_
 refine z7 1 ?_
 go_wp2
 go_loopw [5, 8] (fun _ iv wr => ∃ k : Nat, k ≤ m ∧ iv = .int .i64 (k : Int) ∧ Below w.heap.size w wr) (fun _ iv _ => (l.length - intOf iv).toNat)
 case atStart => exact ⟨0, by omega, rfl, B⟩
 case round =>
  clear B; obtain ⟨k, hk, rfl, B⟩ := hrel; by_cases hkl : k < l.length
  ·have q1 : decide ((k : Int) < (l.length : Int)) = true := zQ (by omega)
   have q2 : decide (k < l.length) = true := zQ hkl; obtain ⟨g, o, rfl, pc0⟩ := HS.out.at (by omega); have pc := pc0.of_eq (B.block _ pc0.lt); clear pc0; have hp := qG hkl; by_cases hki : k < m
   ·have HB := zo (show Zz (jc l k) = false from HLT.out k hki)
    generalize hx1 : jc l k = x1 at *
    clear hx1; go_upto_region 2 with fail
    refine zS 1 ?_; go_upto_region 3 with fail
    refine zS 2 ?_; go_upto_region 4 with fail
    refine wp_region_lit ?_; refine jD 5 ?_; repeat (first | go_big_quiet_skip | (go_big_quiet_want; first | ((first | refine zq (fun w hw => (qD pc w hw).load isAgg43 hp) ?_ | refine qB ?_ | refine qC ?_); simp only [zn]; go_big_quiet_on) | (go_big_quiet_op; go_big_quiet_on)))
    refine wpQuiet_nil ?_; refine je (by first | rfl | simp [Region.wanted, yielded]) rfl (by simp only [Act.eval, yj]; rfl) (zE func52) (by simp only [Act.eval, yj]; rfl) ?_
    refine (zgL x1 false _ HB.out).mono ?_; rintro e wn ⟨rfl, za⟩; obtain ⟨zf, zg, B⟩ := zM B za
    replace pc := pc.be za
    refine ⟨_, rfl, ?_⟩; simp only [zn]; refine wpList_nil ?_; go_upto_region 6 with fail
    refine zS 2 ?_; go_wp2; go_roundw
    case rel => exact ⟨k + 1, by omega, by go_num, B⟩
    case measure => simp [intOf]; omega
   ·have HB := zo (show Zz (jc l k) = true from by rw [show k = m by omega]; exact HAT.out (by omega))
    generalize hx1 : jc l k = x1 at *
    clear hx1; go_upto_region 2 with fail
    refine zS 1 ?_; go_upto_region 3 with fail
    refine zS 2 ?_; go_upto_region 4 with fail
    refine wp_region_lit ?_; refine jD 5 ?_; repeat (first | go_big_quiet_skip | (go_big_quiet_want; first | ((first | refine zq (fun w hw => (qD pc w hw).load isAgg43 hp) ?_ | refine qB ?_ | refine qC ?_); simp only [zn]; go_big_quiet_on) | (go_big_quiet_op; go_big_quiet_on)))
    refine wpQuiet_nil ?_; refine je (by first | rfl | simp [Region.wanted, yielded]) rfl (by simp only [Act.eval, yj]; rfl) (zE func52) (by simp only [Act.eval, yj]; rfl) ?_
    refine (zgL x1 true _ HB.out).mono ?_; rintro e wn ⟨rfl, za⟩; obtain ⟨zf, zg, B⟩ := zM B za; refine ⟨_, rfl, ?_⟩; simp only [zn]; refine wpList_nil ?_; go_upto_region 5 with fail
    refine zS 2 ?_; go_wp2; go_ret; exact ⟨by (rw [← HE.out, if_pos (by omega), show k = m by omega]) <;> rfl, B⟩
  ·have q1 : decide ((k : Int) < (l.length : Int)) = false := zB (by omega)
   have q2 : decide (k < l.length) = false := zB hkl; go_upto_region 2 with fail
   refine zS 1 ?_; go_upto_region 7 with fail
   refine zS 1 ?_; go_wp2; go_ret; exact ⟨by (rw [← HE.out, if_neg (by omega)]) <;> rfl, B⟩
theorem QH (v : Value) (l : List Sp) (b : Bool) (w : World) (rs : xh jf v l w) (hn : l.length ≤ 17592186044416) (e : ul l = !b) : Calls Tryz.prog 51 #[v, .func (.func 52) #[] #[]] w fun e w' => e = .returned (.bool b) ∧ Below w.heap.size w w' := by
 have B := Below.refl w.heap.size w
 have zb := Z1 l
 have hi := zen l
 cases b with
 | true =>
  have HE := zo (show (if idxS l < l.length then (idxS l : Int) else -1) = (idxS l : Int) from if_pos (by rw [e] at hi; have h3 : ¬ idxS l = l.length := (fun k => by have := hi.2 k; cases this); omega))
  have q1 : decide ((0 : Int) ≤ (idxS l : Int)) = true := zQ (by omega); clear hi e; go_enter func51, ntmps51
  go_upto_region 1 with fail
  refine qz 2 ?_; refine qe B (zE func106) (c := Ky _ l (idxS l : Int) _ rs hn HE.out) ?_; clear B; intro wn za zf zg B; refine z7 2 ?_; go_wp2; go_ret; exact ⟨by first | rfl | simp, B⟩
 | false =>
  have HE := zo (show (if idxS l < l.length then (idxS l : Int) else -1) = -1 from if_neg (by rw [e] at hi; have := hi.1 rfl; omega))
  have q1 : decide ((0 : Int) ≤ -1) = false := zB (by omega); clear hi e; go_enter func51, ntmps51
  go_upto_region 1 with fail
  refine qz 2 ?_; refine qe B (zE func106) (c := Ky _ l (-1) _ rs hn HE.out) ?_; clear B; intro wn za zf zg B; refine z7 2 ?_; go_wp2; go_ret; exact ⟨by first | rfl | simp, B⟩
theorem yu {s : jb} (h : (s.pts.length : Int) < 1 ∨ 64 < (s.pts.length : Int) ∨ s.rad < 1 ∨ 256 < s.rad ∨ s.spa < 1 ∨ 4096 < s.spa ∨ s.pha < 0 ∨ 1048575 < s.pha) : jT s = false := by
 unfold jT zgn
 rw [decide_eq_false (by omega)]
 rfl
theorem za1 {s : jb} (h : ¬ ((s.pts.length : Int) < 1 ∨ 64 < (s.pts.length : Int) ∨ s.rad < 1 ∨ 256 < s.rad ∨ s.spa < 1 ∨ 4096 < s.spa ∨ s.pha < 0 ∨ 1048575 < s.pha)) : jT s = (ul s.pts && decide (yn s.pts - s.pha ≤ 1024 * s.spa)) := by
 unfold jT zgn
 rw [decide_eq_true (by omega)]
 rfl
theorem XX {l : List Sp} (h : ul l = true) : ∀ a ∈ l, Q6 a := of_decide_eq_true h
theorem yi (v : Value) (s : jb) (b : Bool) (w : World) (rs : xh jf v s.pts w) (hn : s.pts.length ≤ 17592186044416) (e : jT s = b) : Calls Tryz.prog 16 #[.agg (jg v s)] w fun e w' => e = .returned (.bool b) ∧ Below w.heap.size w w' := by
 have B := Below.refl w.heap.size w
 obtain ⟨a, c, rfl, hc⟩ := rs.len
 by_cases h0 : (s.pts.length : Int) < 1
 ·have q0 : decide ((s.pts.length : Int) < 1) = true := zQ h0
  have p0 : decide (s.pts.length < 1) = true := zQ (by omega); obtain rfl : b = false := by rw [← e]; exact yu (by omega)
  clear e; go_enter func16, ntmps16
  go_upto_region 0 with fail
  refine wp_region_lit ?_
  (refine jd (t := 30) B ?_; clear B; intro b_r1 wn zb zd r1 za zf zk B; replace rs := rs.be za)
  refine z7 1 ?_; go_upto_region 1 with fail
  refine qz 2 ?_
  refine j1 underlying26 ?_; refine jL 4 ?_
  refine qm ?hs21_7 ?_
  case hs21_7 => kernel_rfl
  simp only [zn]; refine z7 32 ?_; go_upto_region 2 with fail
  refine zS 1 ?_; go_wp2; go_ret; exact ⟨rfl, B⟩
 ·by_cases h1 : 64 < (s.pts.length : Int)
  ·have q0 : decide ((s.pts.length : Int) < 1) = false := zB h0
   have q1 : decide (64 < (s.pts.length : Int)) = true := zQ h1; have p0 : decide (s.pts.length < 1) = false := zB (by omega); have p1 : decide (64 < s.pts.length) = true := zQ (by omega); obtain rfl : b = false := by rw [← e]; exact yu (by omega)
   clear e; go_enter func16, ntmps16
   go_upto_region 0 with fail
   refine wp_region_lit ?_
   (refine jd (t := 30) B ?_; clear B; intro b_r1 wn zb zd r1 za zf zk B; replace rs := rs.be za)
   refine z7 1 ?_; go_upto_region 1 with fail
   refine qz 2 ?_
   refine j1 underlying26 ?_; refine jL 4 ?_
   refine j1 underlying26 ?_; refine z7 32 ?_; go_upto_region 2 with fail
   refine zS 1 ?_; go_wp2; go_ret; exact ⟨rfl, B⟩
  ·by_cases h2 : s.rad < 1
   ·have q0 : decide ((s.pts.length : Int) < 1) = false := zB h0
    have q1 : decide (64 < (s.pts.length : Int)) = false := zB h1; have q2 : decide (s.rad < 1) = true := zQ h2; have p0 : decide (s.pts.length < 1) = false := zB (by omega); have p1 : decide (64 < s.pts.length) = false := zB (by omega); obtain rfl : b = false := by rw [← e]; exact yu (by omega)
    clear e; go_enter func16, ntmps16
    go_upto_region 0 with fail
    refine wp_region_lit ?_
    (refine jd (t := 30) B ?_; clear B; intro b_r1 wn zb zd r1 za zf zk B; replace rs := rs.be za)
    refine z7 1 ?_; go_upto_region 1 with fail
    refine qz 2 ?_
    refine j1 underlying26 ?_; refine jL 4 ?_
    refine j1 underlying26 ?_; refine z7 32 ?_; go_upto_region 2 with fail
    refine zS 1 ?_; go_wp2; go_ret; exact ⟨rfl, B⟩
   ·by_cases h3 : 256 < s.rad
    ·have q0 : decide ((s.pts.length : Int) < 1) = false := zB h0
     have q1 : decide (64 < (s.pts.length : Int)) = false := zB h1; have q2 : decide (s.rad < 1) = false := zB h2; have q3 : decide (256 < s.rad) = true := zQ h3; have p0 : decide (s.pts.length < 1) = false := zB (by omega); have p1 : decide (64 < s.pts.length) = false := zB (by omega); obtain rfl : b = false := by rw [← e]; exact yu (by omega)
     clear e; go_enter func16, ntmps16
     go_upto_region 0 with fail
     refine wp_region_lit ?_
     (refine jd (t := 30) B ?_; clear B; intro b_r1 wn zb zd r1 za zf zk B; replace rs := rs.be za)
     refine z7 1 ?_; go_upto_region 1 with fail
     refine qz 2 ?_
     refine j1 underlying26 ?_; refine jL 4 ?_
     refine j1 underlying26 ?_; refine z7 32 ?_; go_upto_region 2 with fail
     refine zS 1 ?_; go_wp2; go_ret; exact ⟨rfl, B⟩
    ·by_cases h4 : s.spa < 1
     ·have q0 : decide ((s.pts.length : Int) < 1) = false := zB h0
      have q1 : decide (64 < (s.pts.length : Int)) = false := zB h1; have q2 : decide (s.rad < 1) = false := zB h2; have q3 : decide (256 < s.rad) = false := zB h3; have q4 : decide (s.spa < 1) = true := zQ h4; have p0 : decide (s.pts.length < 1) = false := zB (by omega); have p1 : decide (64 < s.pts.length) = false := zB (by omega); obtain rfl : b = false := by rw [← e]; exact yu (by omega)
      clear e; go_enter func16, ntmps16
      go_upto_region 0 with fail
      refine wp_region_lit ?_
      (refine jd (t := 30) B ?_; clear B; intro b_r1 wn zb zd r1 za zf zk B; replace rs := rs.be za)
      refine z7 1 ?_; go_upto_region 1 with fail
      refine qz 2 ?_
      refine j1 underlying26 ?_; refine jL 4 ?_
      refine j1 underlying26 ?_; refine z7 32 ?_; go_upto_region 2 with fail
      refine zS 1 ?_; go_wp2; go_ret; exact ⟨rfl, B⟩
     ·by_cases h5 : 4096 < s.spa
      ·have q0 : decide ((s.pts.length : Int) < 1) = false := zB h0
       have q1 : decide (64 < (s.pts.length : Int)) = false := zB h1; have q2 : decide (s.rad < 1) = false := zB h2; have q3 : decide (256 < s.rad) = false := zB h3; have q4 : decide (s.spa < 1) = false := zB h4; have q5 : decide (4096 < s.spa) = true := zQ h5; have p0 : decide (s.pts.length < 1) = false := zB (by omega); have p1 : decide (64 < s.pts.length) = false := zB (by omega); obtain rfl : b = false := by rw [← e]; exact yu (by omega)
       clear e; go_enter func16, ntmps16
       go_upto_region 0 with fail
       refine wp_region_lit ?_
       (refine jd (t := 30) B ?_; clear B; intro b_r1 wn zb zd r1 za zf zk B; replace rs := rs.be za)
       refine z7 1 ?_; go_upto_region 1 with fail
       refine qz 2 ?_
       refine j1 underlying26 ?_; refine jL 4 ?_
       refine j1 underlying26 ?_; refine z7 32 ?_; go_upto_region 2 with fail
       refine zS 1 ?_; go_wp2; go_ret; exact ⟨rfl, B⟩
      ·by_cases h6 : s.pha < 0
       ·have q0 : decide ((s.pts.length : Int) < 1) = false := zB h0
        have q1 : decide (64 < (s.pts.length : Int)) = false := zB h1; have q2 : decide (s.rad < 1) = false := zB h2; have q3 : decide (256 < s.rad) = false := zB h3; have q4 : decide (s.spa < 1) = false := zB h4; have q5 : decide (4096 < s.spa) = false := zB h5; have q6 : decide (s.pha < 0) = true := zQ h6; have p0 : decide (s.pts.length < 1) = false := zB (by omega); have p1 : decide (64 < s.pts.length) = false := zB (by omega); obtain rfl : b = false := by rw [← e]; exact yu (by omega)
        clear e; go_enter func16, ntmps16
        go_upto_region 0 with fail
        refine wp_region_lit ?_
        (refine jd (t := 30) B ?_; clear B; intro b_r1 wn zb zd r1 za zf zk B; replace rs := rs.be za)
        refine z7 1 ?_; go_upto_region 1 with fail
        refine qz 2 ?_
        refine j1 underlying26 ?_; refine jL 4 ?_
        refine j1 underlying26 ?_; refine z7 32 ?_; go_upto_region 2 with fail
        refine zS 1 ?_; go_wp2; go_ret; exact ⟨rfl, B⟩
       ·by_cases h7 : 1048575 < s.pha
        ·have q0 : decide ((s.pts.length : Int) < 1) = false := zB h0
         have q1 : decide (64 < (s.pts.length : Int)) = false := zB h1; have q2 : decide (s.rad < 1) = false := zB h2; have q3 : decide (256 < s.rad) = false := zB h3; have q4 : decide (s.spa < 1) = false := zB h4; have q5 : decide (4096 < s.spa) = false := zB h5; have q6 : decide (s.pha < 0) = false := zB h6; have q7 : decide (1048575 < s.pha) = true := zQ h7; have p0 : decide (s.pts.length < 1) = false := zB (by omega); have p1 : decide (64 < s.pts.length) = false := zB (by omega); obtain rfl : b = false := by rw [← e]; exact yu (by omega)
         clear e; go_enter func16, ntmps16
         go_upto_region 0 with fail
         refine wp_region_lit ?_
         (refine jd (t := 30) B ?_; clear B; intro b_r1 wn zb zd r1 za zf zk B; replace rs := rs.be za)
         refine z7 1 ?_; go_upto_region 1 with fail
         refine qz 2 ?_
         refine j1 underlying26 ?_; refine jL 4 ?_
         refine j1 underlying26 ?_; refine z7 32 ?_; go_upto_region 2 with fail
         refine zS 1 ?_; go_wp2; go_ret; exact ⟨rfl, B⟩
        ·have q0 : decide ((s.pts.length : Int) < 1) = false := zB h0
         have q1 : decide (64 < (s.pts.length : Int)) = false := zB h1; have q2 : decide (s.rad < 1) = false := zB h2; have q3 : decide (256 < s.rad) = false := zB h3; have q4 : decide (s.spa < 1) = false := zB h4; have q5 : decide (4096 < s.spa) = false := zB h5; have q6 : decide (s.pha < 0) = false := zB h6; have q7 : decide (1048575 < s.pha) = false := zB h7; have p0 : decide (s.pts.length < 1) = false := zB (by omega); have p1 : decide (64 < s.pts.length) = false := zB (by omega); have HV := za1 (s := s) (by omega); rw [HV] at e; clear HV; cases hk : ul s.pts with
         | false =>
          have HK := zo (show ul s.pts = !true from hk); obtain rfl : b = false := by rw [← e, hk]; rfl
          clear e hk; go_enter func16, ntmps16
          go_upto_region 0 with fail
          refine wp_region_lit ?_
          (refine jd (t := 30) B ?_; clear B; intro b_r1 wn zb zd r1 za zf zk B; replace rs := rs.be za)
          refine z7 1 ?_; go_upto_region 1 with fail
          refine qz 2 ?_
          refine j1 underlying26 ?_; refine jL 4 ?_
          refine j1 underlying26 ?_; refine z7 32 ?_; go_upto_region 3 with fail
          refine qz 2 ?_
          refine qe B (zE func51) (c := QH _ s.pts true _ rs hn HK.out) ?_; clear B; intro wn za zf zg B
          replace r1 := r1.be za
          replace rs := rs.be za; refine wpList_nil ?_; go_upto_region 4 with fail
          refine zS 1 ?_; go_wp2; go_ret; exact ⟨rfl, B⟩
         | true =>
          have HK := zo (show ul s.pts = !false from hk); have HO := zo (XX hk); rw [hk, Bool.true_and] at e; have E := zo e; have HTT : 0 ≤ yn s.pts ∧ yn s.pts ≤ 189812544 := by
           have h1 := Zc HO.out (s.pts.length - 1) (by omega); exact ⟨wZ _ _, by show jK s.pts (s.pts.length - 1) ≤ _; omega⟩
          obtain ⟨t, ht⟩ : ∃ t, yn s.pts = t := ⟨_, rfl⟩; rw [ht] at E HTT; have HT := zo ht; clear e hk ht; go_enter func16, ntmps16
          go_upto_region 0 with fail
          refine wp_region_lit ?_
          (refine jd (t := 30) B ?_; clear B; intro b_r1 wn zb zd r1 za zf zk B; replace rs := rs.be za)
          refine z7 1 ?_; go_upto_region 1 with fail
          refine qz 2 ?_
          refine j1 underlying26 ?_; refine jL 4 ?_
          refine j1 underlying26 ?_; refine z7 32 ?_; go_upto_region 3 with fail
          refine qz 2 ?_
          refine qe B (zE func51) (c := QH _ s.pts false _ rs hn HK.out) ?_; clear B; intro wn za zf zg B
          replace r1 := r1.be za
          replace rs := rs.be za; refine wpList_nil ?_; go_upto_region 5 with fail
          refine zA 11 [(2, zF ?v1_2)] (by kernel_rfl) (by kernel_rfl) (by kernel_rfl) ?_
          rotate_left 1
          simp only [jS, Nat.reduceAdd]; refine vi 2 ?_
          refine zcB ?_ ?_
          ·intro wn za hE Kx hKx
           obtain ⟨zf, zg, B⟩ := zM B za
           replace r1 := r1.be za
           replace rs := rs.be za
           refine zcF func54 ?_
           refine (zat _ s.pts t wn rs (by omega) HO.out HT.out).mono ?_; rintro e wm ⟨rfl, zl⟩; refine ⟨_, rfl, ?_⟩; have hz := hKx () wm trivial zl
           dsimp only [zF] at hz
           exact hz
          rintro ⟨⟩
          dsimp only [zF]
          simp only [zn]; refine vi 8 ?_
          refine qi ?_; intro wn za hE; obtain ⟨zf, zg, B⟩ := zM B za; clear hE; try simp only [List.drop_succ_cons, List.drop_zero]
          refine zI.normal ?_; go_wp2; go_ret; exact ⟨by (rw [← E.out]) <;> rfl, B⟩
theorem zgM (v : Value) (s : jb) (x y z q : Int) (w : World) (hr : 0 ≤ s.rad ∧ s.rad ≤ 256) (hz : 0 ≤ z ∧ z ≤ 255) (e : zG (s.rad * z) 255 = q) : Calls Tryz.prog 110 #[.agg (jg v s), .int .i64 x, .int .i64 y, .int .i64 z] w fun e w' => e = .returned (.agg #[.int .i64 x, .int .i64 y, .int .i64 q]) ∧ Below w.heap.size w w' := by
 have B := Below.refl w.heap.size w
 have m := jX (m := 256) (k := 255) hr.1 hr.2 hz.1 hz.2
 have E := zo e
 clear e
 go_enter func110, ntmps110
 go_upto_region 0 with fail
 refine wp_region_lit ?_
 (refine jd (t := 30) B ?_; clear B; intro b_r4 wn zb zd r4 za zf zk B)
 (refine jH (t := 45) (y9 _ _ rfl) B ?_; clear B; intro b_d8 wn zb zd d8 za zf zk B; replace r4 := r4.be za)
 refine wpList_nil ?_
 go_upto_region 1 with fail
 refine qz 6 ?_
 refine qe B (zE func68) (c := wg (s.rad * z) 255 q _ (by omega) (by omega) (by omega) (by omega) E.out) ?_
 clear B
 intro wn za zf zg B
 replace d8 := d8.be za
 refine jL 1 ?_
 (refine qZ (hone := (by simp [jP, Value.oneCell'])) d8 B ?_; clear d8 B; intro wn d8 ze zf zg B)
 refine wpList_nil ?_
 first | (refine qO d8 ?_) | (go_step; refine qO d8 ?_) | (go_step; go_step; refine qO d8 ?_) | (go_step; go_step; go_step; refine qO d8 ?_) | (go_step; go_step; go_step; go_step; refine qO d8 ?_) | (go_step; go_step; go_step; go_step; go_step; refine qO d8 ?_)
 exact ⟨rfl, B⟩
theorem zgO (v : Value) (s : jb) (x y z q : Int) (w : World) (hr : 0 ≤ s.rad ∧ s.rad ≤ 256) (hz : 0 ≤ z ∧ z ≤ 255) (e : zG (s.rad * z) 255 = q) : Calls Tryz.prog 59 #[.agg (jg v s), .int .i64 x, .int .i64 y, .int .i64 z] w fun e w' => e = .returned (.agg #[.int .i64 x, .int .i64 y, .int .i64 q]) ∧ Below w.heap.size w w' := by
 have B := Below.refl w.heap.size w
 have m := jX (m := 256) (k := 255) hr.1 hr.2 hz.1 hz.2
 have E := zo e
 clear e
 go_enter func59, ntmps59
 go_upto_region 0 with fail
 refine wp_region_lit ?_
 (refine jd (t := 30) B ?_; clear B; intro b_r4 wn zb zd r4 za zf zk B)
 (refine jH (t := 45) (y9 _ _ rfl) B ?_; clear B; intro b_d8 wn zb zd d8 za zf zk B; replace r4 := r4.be za)
 refine wpList_nil ?_
 go_upto_region 1 with fail
 refine qz 6 ?_
 refine qe B (zE func23) (c := ws (s.rad * z) 255 q _ (by omega) (by omega) (by omega) (by omega) E.out) ?_
 clear B
 intro wn za zf zg B
 replace d8 := d8.be za
 refine jL 1 ?_
 (refine qZ (hone := (by simp [jP, Value.oneCell'])) d8 B ?_; clear d8 B; intro wn d8 ze zf zg B)
 refine wpList_nil ?_
 first | (refine qO d8 ?_) | (go_step; refine qO d8 ?_) | (go_step; go_step; refine qO d8 ?_) | (go_step; go_step; go_step; refine qO d8 ?_) | (go_step; go_step; go_step; go_step; refine qO d8 ?_) | (go_step; go_step; go_step; go_step; go_step; refine qO d8 ?_)
 exact ⟨rfl, B⟩
theorem kO (d : Db) (r : Rc) (w : World) (hx : -1000000000000 ≤ d.x ∧ d.x ≤ 1000000000000) (hy : -1000000000000 ≤ d.y ∧ d.y ≤ 1000000000000) (hr : -1000000000000 ≤ d.r ∧ d.r ≤ 1000000000000) (e : kZ d = r) : Calls Tryz.prog 62 #[.agg (kA.enc d)] w fun e w' => e = .returned (.agg (jP r)) ∧ Below w.heap.size w w' := by
 have B := Below.refl w.heap.size w
 obtain ⟨q1, h1⟩ : ∃ q, (d.x - d.r) / 16 = q := ⟨_, rfl⟩
 obtain ⟨q2, h2⟩ : ∃ q, (d.y - d.r) / 16 = q := ⟨_, rfl⟩
 obtain ⟨q3, h3⟩ : ∃ q, (d.x + d.r) / 16 = q := ⟨_, rfl⟩
 obtain ⟨q4, h4⟩ : ∃ q, (d.y + d.r) / 16 = q := ⟨_, rfl⟩
 obtain rfl : r = ⟨q1, q2, q3 + 1, q4 + 1⟩ := by rw [← e]; unfold kZ; rw [h1, h2, h3, h4]
 have b3 : -1000000000000 ≤ q3 ∧ q3 ≤ 1000000000000 := by omega
 have b4 : -1000000000000 ≤ q4 ∧ q4 ≤ 1000000000000 := by omega
 have H1 := zo h1
 have H2 := zo h2
 have H3 := zo h3
 have H4 := zo h4
 clear e h1 h2 h3 h4
 go_enter func62, ntmps62
 go_upto_region 0 with fail
 refine wp_region_lit ?_
 (refine jd (t := 45) B ?_; clear B; intro b_d1 wn zb zd d1 za zf zk B)
 (refine jH (t := 38) (zN _ _ rfl) B ?_; clear B; intro b_r2 wn zb zd r2 za zf zk B; replace d1 := d1.be za)
 refine wpList_nil ?_
 go_upto_region 1 with fail
 refine zA 27 [(5, zF ?v1_5), (11, zF ?v1_11), (17, zF ?v1_17), (24, zF ?v1_24)] (by kernel_rfl) (by kernel_rfl) (by kernel_rfl) ?_
 rotate_left 4
 simp only [jS, Nat.reduceAdd]
 refine vi 5 ?_
 refine zcB ?_ ?_
 ·intro wn za hE Kx hKx
  obtain ⟨zf, zg, B⟩ := zM B za
  replace d1 := d1.be za
  replace r2 := r2.be za
  refine zcF func111 ?_
  refine (uB (d.x - d.r) 16 q1 wn (by omega) (by omega) (by omega) (by omega) H1.out).mono ?_; rintro e wm ⟨rfl, zl⟩; refine ⟨_, rfl, ?_⟩; have hz := hKx () wm trivial zl
  dsimp only [zF] at hz
  exact hz
 rintro ⟨⟩
 dsimp only [zF]
 simp only [zn]
 refine vi 5 ?_
 refine zcB ?_ ?_
 ·intro wn za hE Kx hKx
  obtain ⟨zf, zg, B⟩ := zM B za
  replace d1 := d1.be za
  replace r2 := r2.be za
  refine zcF func111 ?_
  refine (uB (d.y - d.r) 16 q2 wn (by omega) (by omega) (by omega) (by omega) H2.out).mono ?_; rintro e wm ⟨rfl, zl⟩; refine ⟨_, rfl, ?_⟩; have hz := hKx () wm trivial zl
  dsimp only [zF] at hz
  exact hz
 rintro ⟨⟩
 dsimp only [zF]
 simp only [zn]
 refine vi 5 ?_
 refine zcB ?_ ?_
 ·intro wn za hE Kx hKx
  obtain ⟨zf, zg, B⟩ := zM B za
  replace d1 := d1.be za
  replace r2 := r2.be za
  refine zcF func111 ?_
  refine (uB (d.x + d.r) 16 q3 wn (by omega) (by omega) (by omega) (by omega) H3.out).mono ?_; rintro e wm ⟨rfl, zl⟩; refine ⟨_, rfl, ?_⟩; have hz := hKx () wm trivial zl
  dsimp only [zF] at hz
  exact hz
 rintro ⟨⟩
 dsimp only [zF]
 simp only [zn]
 refine vi 6 ?_
 refine zcB ?_ ?_
 ·intro wn za hE Kx hKx
  obtain ⟨zf, zg, B⟩ := zM B za
  replace r2 := r2.be za
  refine zcF func111 ?_
  refine (uB (d.y + d.r) 16 q4 wn (by omega) (by omega) (by omega) (by omega) H4.out).mono ?_; rintro e wm ⟨rfl, zl⟩; refine ⟨_, rfl, ?_⟩; have hz := hKx () wm trivial zl
  dsimp only [zF] at hz
  exact hz
 rintro ⟨⟩
 dsimp only [zF]
 simp only [zn]
 refine vi 2 ?_
 refine qi ?_
 intro wn za hE
 obtain ⟨zf, zg, B⟩ := zM B za
 replace r2 := r2.be za
 clear hE
 try simp only [List.drop_succ_cons, List.drop_zero]
 go_wp2_with (first | (refine qZ (hone := (by simp [jP, Value.oneCell'])) r2 B ?_; clear r2 B; intro wn r2 ze zf zg B) | fail)
 refine zI.normal ?_
 first | (refine qO r2 ?_) | (go_step; refine qO r2 ?_) | (go_step; go_step; refine qO r2 ?_) | (go_step; go_step; go_step; refine qO r2 ?_) | (go_step; go_step; go_step; go_step; refine qO r2 ?_) | (go_step; go_step; go_step; go_step; go_step; refine qO r2 ?_)
 exact ⟨rfl, B⟩
theorem zdB (d : Db) (r : Rc) (w : World) (hx : -1000000000000 ≤ d.x ∧ d.x ≤ 1000000000000) (hy : -1000000000000 ≤ d.y ∧ d.y ≤ 1000000000000) (hr : -1000000000000 ≤ d.r ∧ d.r ≤ 1000000000000) (e : kZ d = r) : Calls Tryz.prog 64 #[.agg (kA.enc d)] w fun e w' => e = .returned (.agg (jP r)) ∧ Below w.heap.size w w' := by
 have B := Below.refl w.heap.size w
 obtain ⟨q1, h1⟩ : ∃ q, (d.x - d.r) / 16 = q := ⟨_, rfl⟩
 obtain ⟨q2, h2⟩ : ∃ q, (d.y - d.r) / 16 = q := ⟨_, rfl⟩
 obtain ⟨q3, h3⟩ : ∃ q, (d.x + d.r) / 16 = q := ⟨_, rfl⟩
 obtain ⟨q4, h4⟩ : ∃ q, (d.y + d.r) / 16 = q := ⟨_, rfl⟩
 obtain rfl : r = ⟨q1, q2, q3 + 1, q4 + 1⟩ := by rw [← e]; unfold kZ; rw [h1, h2, h3, h4]
 have b3 : -1000000000000 ≤ q3 ∧ q3 ≤ 1000000000000 := by omega
 have b4 : -1000000000000 ≤ q4 ∧ q4 ≤ 1000000000000 := by omega
 have H1 := zo h1
 have H2 := zo h2
 have H3 := zo h3
 have H4 := zo h4
 clear e h1 h2 h3 h4
 go_enter func64, ntmps64
 go_upto_region 0 with fail
 refine wp_region_lit ?_
 (refine jd (t := 45) B ?_; clear B; intro b_d1 wn zb zd d1 za zf zk B)
 (refine jH (t := 38) (zN _ _ rfl) B ?_; clear B; intro b_r2 wn zb zd r2 za zf zk B; replace d1 := d1.be za)
 refine wpList_nil ?_
 go_upto_region 1 with fail
 refine zA 27 [(5, zF ?v2_5), (11, zF ?v2_11), (17, zF ?v2_17), (24, zF ?v2_24)] (by kernel_rfl) (by kernel_rfl) (by kernel_rfl) ?_
 rotate_left 4
 simp only [jS, Nat.reduceAdd]
 refine vi 5 ?_
 refine zcB ?_ ?_
 ·intro wn za hE Kx hKx
  obtain ⟨zf, zg, B⟩ := zM B za
  replace d1 := d1.be za
  replace r2 := r2.be za
  refine zcF func67 ?_
  refine (uD (d.x - d.r) 16 q1 wn (by omega) (by omega) (by omega) (by omega) H1.out).mono ?_; rintro e wm ⟨rfl, zl⟩; refine ⟨_, rfl, ?_⟩; have hz := hKx () wm trivial zl
  dsimp only [zF] at hz
  exact hz
 rintro ⟨⟩
 dsimp only [zF]
 simp only [zn]
 refine vi 5 ?_
 refine zcB ?_ ?_
 ·intro wn za hE Kx hKx
  obtain ⟨zf, zg, B⟩ := zM B za
  replace d1 := d1.be za
  replace r2 := r2.be za
  refine zcF func67 ?_
  refine (uD (d.y - d.r) 16 q2 wn (by omega) (by omega) (by omega) (by omega) H2.out).mono ?_; rintro e wm ⟨rfl, zl⟩; refine ⟨_, rfl, ?_⟩; have hz := hKx () wm trivial zl
  dsimp only [zF] at hz
  exact hz
 rintro ⟨⟩
 dsimp only [zF]
 simp only [zn]
 refine vi 5 ?_
 refine zcB ?_ ?_
 ·intro wn za hE Kx hKx
  obtain ⟨zf, zg, B⟩ := zM B za
  replace d1 := d1.be za
  replace r2 := r2.be za
  refine zcF func67 ?_
  refine (uD (d.x + d.r) 16 q3 wn (by omega) (by omega) (by omega) (by omega) H3.out).mono ?_; rintro e wm ⟨rfl, zl⟩; refine ⟨_, rfl, ?_⟩; have hz := hKx () wm trivial zl
  dsimp only [zF] at hz
  exact hz
 rintro ⟨⟩
 dsimp only [zF]
 simp only [zn]
 refine vi 6 ?_
 refine zcB ?_ ?_
 ·intro wn za hE Kx hKx
  obtain ⟨zf, zg, B⟩ := zM B za
  replace r2 := r2.be za
  refine zcF func67 ?_
  refine (uD (d.y + d.r) 16 q4 wn (by omega) (by omega) (by omega) (by omega) H4.out).mono ?_; rintro e wm ⟨rfl, zl⟩; refine ⟨_, rfl, ?_⟩; have hz := hKx () wm trivial zl
  dsimp only [zF] at hz
  exact hz
 rintro ⟨⟩
 dsimp only [zF]
 simp only [zn]
 refine vi 2 ?_
 refine qi ?_
 intro wn za hE
 obtain ⟨zf, zg, B⟩ := zM B za
 replace r2 := r2.be za
 clear hE
 try simp only [List.drop_succ_cons, List.drop_zero]
 go_wp2_with (first | (refine qZ (hone := (by simp [jP, Value.oneCell'])) r2 B ?_; clear r2 B; intro wn r2 ze zf zg B) | fail)
 refine zI.normal ?_
 first | (refine qO r2 ?_) | (go_step; refine qO r2 ?_) | (go_step; go_step; refine qO r2 ?_) | (go_step; go_step; go_step; refine qO r2 ?_) | (go_step; go_step; go_step; go_step; refine qO r2 ?_) | (go_step; go_step; go_step; go_step; go_step; refine qO r2 ?_)
 exact ⟨rfl, B⟩
theorem zdz (w : World) : Calls Tryz.prog 66 #[] w fun e w' => e = .returned (.agg (jP Q5)) ∧ Below w.heap.size w w' := by
 have B := Below.refl w.heap.size w
 go_enter func66, ntmps66
 go_upto_region 0 with fail
 refine wp_region_lit ?_
 (refine jH (t := 38) (zN _ _ rfl) B ?_; clear B; intro b_r0 wn zb zd r0 za zf zk B)
 refine wpList_nil ?_
 go_upto_region 1 with fail
 refine qz 1 ?_
 (refine qZ (hone := (by simp [jP, Value.oneCell'])) r0 B ?_; clear r0 B; intro wn r0 ze zf zg B)
 refine wpList_nil ?_
 first | (refine qO r0 ?_) | (go_step; refine qO r0 ?_) | (go_step; go_step; refine qO r0 ?_) | (go_step; go_step; go_step; refine qO r0 ?_) | (go_step; go_step; go_step; go_step; refine qO r0 ?_) | (go_step; go_step; go_step; go_step; go_step; refine qO r0 ?_)
 exact ⟨rfl, B⟩
theorem Kz (r s : Rc) (q : Rc) (w : World) (e : y4 r s = q) : Calls Tryz.prog 46 #[.agg (jP r), .agg (jP s)] w fun e w' => e = .returned (.agg (jP q)) ∧ Below w.heap.size w w' := e ▸ KA r s w
theorem KR (r s : Rc) (w : World) : Calls Tryz.prog 65 #[Rc.v r, Rc.v s] w fun e w' => e = .returned (Rc.v (y4 r s)) ∧ Below w.heap.size w w' := by
 obtain ⟨a, b, c, d⟩ := r
 obtain ⟨a', b', c', d'⟩ := s
 have B := Below.refl w.heap.size w
 rw [show y4 ⟨a, b, c, d⟩ ⟨a', b', c', d'⟩ = kR ⟨max a a', max b b', min c c', min d d'⟩ from rfl]
 simp only [Rc.v_mk]
 go_enter func65, ntmps65
 go_wp2_with (first | (refine qZ r3 B ?_; clear r3 B; intro wn r3 ze zf zg B; replace r1 := r1.cg ze; replace r2 := r2.cg ze) | (go_at_call 113; refine (zhk ⟨max a a', max b b', min c c', min d d'⟩ _).mono ?_; rintro e wn ⟨rfl, za⟩; obtain ⟨zf, zg, B⟩ := zM B za; replace r1 := r1.be za; replace r2 := r2.be za; replace r3 := r3.be za) | (have _ := r2; refine jH (t := 38) (zN _ _ rfl) B ?_; clear B; intro b_r3 wn zb zd r3 za zf zk B; replace r1 := r1.be za; replace r2 := r2.be za) | (have _ := r1; refine jd (t := 38) B ?_; clear B; intro b_r2 wn zb zd r2 za zf zk B; replace r1 := r1.be za) | (refine jd (t := 38) B ?_; clear B; intro b_r1 wn zb zd r1 za zf zk B) | (first | refine yN ?_ | refine yO ?_) | fail)
 refine qO r3 ?_
 exact ⟨rfl, B⟩
theorem zdt (r s : Rc) (q : Rc) (w : World) (e : y4 r s = q) : Calls Tryz.prog 65 #[.agg (jP r), .agg (jP s)] w fun e w' => e = .returned (.agg (jP q)) ∧ Below w.heap.size w w' := e ▸ KR r s w
theorem zc5 (r s q : Rc) (w : World) (e : yx r s = q) : Calls Tryz.prog 61 #[.agg (jP r), .agg (jP s)] w fun e w' => e = .returned (.agg (jP q)) ∧ Below w.heap.size w w' := e ▸ zfu r s w
theorem Qj {d : Db} {x y n : Int} {i j k : Nat} {b : Bool} {σ : Nat → Nat × Nat} (hs : yw d x y σ k = n) (hσ : σ k = (i, j)) (hh : ZE d x y i j = b) : yw d x y σ (k + 1) = if b = true then n + 1 else n := by
 show yw d x y σ k + (if ZE d x y (σ k).1 (σ k).2 = true then 1 else 0) = _
 rw [hσ]
 dsimp only
 rw [hh, hs]
 cases b
 ·show n + 0 = n; omega
 ·rfl
def σP : Nat → Nat × Nat := fun k => (k / 4, k % 4)
def σR : Nat → Nat × Nat := fun k => (k % 4, k / 4)
theorem zaC {d : Db} {x y n : Int} (h : zb9 d = true) (e : kP d x y = n) : zG (255 * Kh d x y) 16 = n := by
 unfold kP at e
 rw [if_pos h] at e
 exact e
theorem vO {d : Db} (h : d.r < 1 ∨ 256 < d.r ∨ vk d.x = false ∨ vk d.y = false) (x y : Int) : kP d x y = 0 := by
 unfold kP
 rw [if_neg]
 intro k
 unfold zb9 at k
 rw [Bool.and_eq_true, Bool.and_eq_true, decide_eq_true_iff] at k
 rcases h with h | h | h | h
 ·omega
 ·omega
 ·rw [k.2.1] at h; cases h
 ·rw [k.2.2] at h; cases h
theorem Vr {d : Db} (h1 : ¬ d.r < 1) (h2 : ¬ 256 < d.r) (h3 : vk d.x = true) (h4 : vk d.y = true) : zb9 d = true := by
 unfold zb9
 rw [decide_eq_true (by omega), h3, h4]
 rfl
theorem Qx {x : Int} (h : vk x = true) : -1048576 ≤ x ∧ x ≤ 1048575 := of_decide_eq_true h
theorem ze3 {d : Db} {x y : Int} (h : jx (kZ d) x y = true) (hr : 1 ≤ d.r ∧ d.r ≤ 256) : (-300 ≤ 16 * x - d.x ∧ 16 * x - d.x ≤ 300) ∧ (-300 ≤ 16 * y - d.y ∧ 16 * y - d.y ≤ 300) := by
 have h := (xe _ _ _).1 h
 unfold kZ at h
 simp only at h
 omega
theorem zai (r : Rc) (x y : Int) (b : Bool) (w : World) (e : jx r x y = b) : Calls Tryz.prog 25 #[.agg (jP r), .agg #[.int .i64 x, .int .i64 y]] w fun e w' => e = .returned (.bool b) ∧ Below w.heap.size w w' := e ▸ zah r x y w
theorem zag (d : Db) (x y n : Int) (w : World) (hx : -1000000000000 ≤ d.x ∧ d.x ≤ 1000000000000) (hy : -1000000000000 ≤ d.y ∧ d.y ≤ 1000000000000) (hr : -1000000000000 ≤ d.r ∧ d.r ≤ 1000000000000) (e : kP d x y = n) : Calls Tryz.prog 24 #[.agg (kA.enc d), .int .i64 x, .int .i64 y] w fun e w' => e = .returned (.int .i64 n) ∧ Below w.heap.size w w' := by
 have B := Below.refl w.heap.size w
 obtain ⟨q, hq⟩ : ∃ q, kZ d = q := ⟨_, rfl⟩
 have HQ := zo hq
 clear hq
 by_cases h0 : d.r < 1
 ·have q0 : decide (d.r < 1) = true := zQ h0
  obtain rfl : n = 0 := by rw [← e]; exact vO (.inl h0) x y
  clear e ; go_enter func24, ntmps24
  go_upto_region 0 with fail
  refine wp_region_lit ?_
  (refine jd (t := 45) B ?_; clear B; intro b_d3 wn zb zd d3 za zf zk B)
  refine z7 1 ?_; go_upto_region 1 with fail
  refine qz 1 ?_
  refine qe B (zE func62) (c := kO d q _ hx hy hr HQ.out) ?_; clear B; intro wn za zf zg B
  replace d3 := d3.be za
  (refine jH (t := 38) (zN _ _ rfl) B ?_; clear B; intro b_r7 wn zb zd r7 za zf zk B; replace d3 := d3.be za)
  (refine qZ (hone := (by simp [jP, Value.oneCell'])) r7 B ?_; clear r7 B; intro wn r7 ze zf zg B; replace d3 := d3.cg ze)
  refine wpList_nil ?_; replace r7 : zw 38 _ b_r7 (jP q) := r7; go_upto_region 2 with fail
  refine qz 11 ?_
  refine qm ?hs11_11 ?_
  case hs11_11 => kernel_rfl
  simp only [zn]; refine jL 5 ?_
  refine qm ?hs11_17 ?_
  case hs11_17 => kernel_rfl
  simp only [zn]; refine jL 7 ?_
  refine qm ?hs11_25 ?_
  case hs11_25 => kernel_rfl
  simp only [zn]; refine z7 2 ?_; go_upto_region 3 with fail
  refine zS 1 ?_; go_wp2; go_ret; exact ⟨rfl, B⟩
 ·by_cases h1 : 256 < d.r
  ·have q0 : decide (d.r < 1) = false := zB h0
   have q1 : decide (256 < d.r) = true := zQ h1; obtain rfl : n = 0 := by rw [← e]; exact vO (.inr (.inl h1)) x y
   clear e ; go_enter func24, ntmps24
   go_upto_region 0 with fail
   refine wp_region_lit ?_
   (refine jd (t := 45) B ?_; clear B; intro b_d3 wn zb zd d3 za zf zk B)
   refine z7 1 ?_; go_upto_region 1 with fail
   refine qz 1 ?_
   refine qe B (zE func62) (c := kO d q _ hx hy hr HQ.out) ?_; clear B; intro wn za zf zg B
   replace d3 := d3.be za
   (refine jH (t := 38) (zN _ _ rfl) B ?_; clear B; intro b_r7 wn zb zd r7 za zf zk B; replace d3 := d3.be za)
   (refine qZ (hone := (by simp [jP, Value.oneCell'])) r7 B ?_; clear r7 B; intro wn r7 ze zf zg B; replace d3 := d3.cg ze)
   refine wpList_nil ?_; replace r7 : zw 38 _ b_r7 (jP q) := r7; go_upto_region 2 with fail
   refine qz 11 ?_
   refine qm ?hs15_11 ?_
   case hs15_11 => kernel_rfl
   simp only [zn]; refine jL 5 ?_
   refine qm ?hs15_17 ?_
   case hs15_17 => kernel_rfl
   simp only [zn]; refine jL 7 ?_
   refine qm ?hs15_25 ?_
   case hs15_25 => kernel_rfl
   simp only [zn]; refine z7 2 ?_; go_upto_region 3 with fail
   refine zS 1 ?_; go_wp2; go_ret; exact ⟨rfl, B⟩
  ·by_cases h2 : vk d.x = false
   ·have q0 : decide (d.r < 1) = false := zB h0
    have q1 : decide (256 < d.r) = false := zB h1; have H2 := zo (show vk d.x = false from h2); obtain rfl : n = 0 := by rw [← e]; exact vO (.inr (.inr (.inl h2))) x y
    clear e h2; go_enter func24, ntmps24
    go_upto_region 0 with fail
    refine wp_region_lit ?_
    (refine jd (t := 45) B ?_; clear B; intro b_d3 wn zb zd d3 za zf zk B)
    refine z7 1 ?_; go_upto_region 1 with fail
    refine qz 1 ?_
    refine qe B (zE func62) (c := kO d q _ hx hy hr HQ.out) ?_; clear B; intro wn za zf zg B
    replace d3 := d3.be za
    (refine jH (t := 38) (zN _ _ rfl) B ?_; clear B; intro b_r7 wn zb zd r7 za zf zk B; replace d3 := d3.be za)
    (refine qZ (hone := (by simp [jP, Value.oneCell'])) r7 B ?_; clear r7 B; intro wn r7 ze zf zg B; replace d3 := d3.cg ze)
    refine wpList_nil ?_; replace r7 : zw 38 _ b_r7 (jP q) := r7; go_upto_region 2 with fail
    refine qz 11 ?_
    refine qe B (zE func53) (c := kU d.x false _ H2.out) ?_; clear B; intro wn za zf zg B
    replace d3 := d3.be za
    replace r7 := r7.be za; refine jL 5 ?_
    refine qm ?hs19_17 ?_
    case hs19_17 => kernel_rfl
    simp only [zn]; refine jL 7 ?_
    refine qm ?hs19_25 ?_
    case hs19_25 => kernel_rfl
    simp only [zn]; refine z7 2 ?_; go_upto_region 3 with fail
    refine zS 1 ?_; go_wp2; go_ret; exact ⟨rfl, B⟩
   ·by_cases h3 : vk d.y = false
    ·have q0 : decide (d.r < 1) = false := zB h0
     have q1 : decide (256 < d.r) = false := zB h1; have H2 := zo (show vk d.x = true from by simpa using h2); have H3 := zo (show vk d.y = false from h3); obtain rfl : n = 0 := by rw [← e]; exact vO (.inr (.inr (.inr h3))) x y
     clear e h2 h3; go_enter func24, ntmps24
     go_upto_region 0 with fail
     refine wp_region_lit ?_
     (refine jd (t := 45) B ?_; clear B; intro b_d3 wn zb zd d3 za zf zk B)
     refine z7 1 ?_; go_upto_region 1 with fail
     refine qz 1 ?_
     refine qe B (zE func62) (c := kO d q _ hx hy hr HQ.out) ?_; clear B; intro wn za zf zg B
     replace d3 := d3.be za
     (refine jH (t := 38) (zN _ _ rfl) B ?_; clear B; intro b_r7 wn zb zd r7 za zf zk B; replace d3 := d3.be za)
     (refine qZ (hone := (by simp [jP, Value.oneCell'])) r7 B ?_; clear r7 B; intro wn r7 ze zf zg B; replace d3 := d3.cg ze)
     refine wpList_nil ?_; replace r7 : zw 38 _ b_r7 (jP q) := r7; go_upto_region 2 with fail
     refine qz 11 ?_
     refine qe B (zE func53) (c := kU d.x true _ H2.out) ?_; clear B; intro wn za zf zg B
     replace d3 := d3.be za
     replace r7 := r7.be za; refine jL 5 ?_
     refine qe B (zE func53) (c := kU d.y false _ H3.out) ?_; clear B; intro wn za zf zg B
     replace d3 := d3.be za
     replace r7 := r7.be za; refine jL 7 ?_
     refine qm ?hs23_25 ?_
     case hs23_25 => kernel_rfl
     simp only [zn]; refine z7 2 ?_; go_upto_region 3 with fail
     refine zS 1 ?_; go_wp2; go_ret; exact ⟨rfl, B⟩
    ·by_cases h4 : jx q x y = false
     ·have q0 : decide (d.r < 1) = false := zB h0
      have q1 : decide (256 < d.r) = false := zB h1; have H2 := zo (show vk d.x = true from by simpa using h2); have H3 := zo (show vk d.y = true from by simpa using h3); have H4 := zo (show jx q x y = false from h4); obtain rfl : n = 0 := by rw [← e]; exact K5 (by rw [HQ.out]; exact h4)
      clear e h2 h3 h4; go_enter func24, ntmps24
      go_upto_region 0 with fail
      refine wp_region_lit ?_
      (refine jd (t := 45) B ?_; clear B; intro b_d3 wn zb zd d3 za zf zk B)
      refine z7 1 ?_; go_upto_region 1 with fail
      refine qz 1 ?_
      refine qe B (zE func62) (c := kO d q _ hx hy hr HQ.out) ?_; clear B; intro wn za zf zg B
      replace d3 := d3.be za
      (refine jH (t := 38) (zN _ _ rfl) B ?_; clear B; intro b_r7 wn zb zd r7 za zf zk B; replace d3 := d3.be za)
      (refine qZ (hone := (by simp [jP, Value.oneCell'])) r7 B ?_; clear r7 B; intro wn r7 ze zf zg B; replace d3 := d3.cg ze)
      refine wpList_nil ?_; replace r7 : zw 38 _ b_r7 (jP q) := r7; go_upto_region 2 with fail
      refine qz 11 ?_
      refine qe B (zE func53) (c := kU d.x true _ H2.out) ?_; clear B; intro wn za zf zg B
      replace d3 := d3.be za
      replace r7 := r7.be za; refine jL 5 ?_
      refine qe B (zE func53) (c := kU d.y true _ H3.out) ?_; clear B; intro wn za zf zg B
      replace d3 := d3.be za
      replace r7 := r7.be za; refine jL 7 ?_
      refine qe B (zE func25) (c := zai q x y false _ H4.out) ?_; clear B; intro wn za zf zg B
      replace d3 := d3.be za
      replace r7 := r7.be za; refine z7 2 ?_; go_upto_region 3 with fail
      refine zS 1 ?_; go_wp2; go_ret; exact ⟨rfl, B⟩
     ·have q0 : decide (d.r < 1) = false := zB h0
      have q1 : decide (256 < d.r) = false := zB h1; have H2 := zo (show vk d.x = true from by simpa using h2); have H3 := zo (show vk d.y = true from by simpa using h3); have H4 := zo (show jx q x y = true from by simpa using h4); have HOK := Vr h0 h1 H2.out H3.out; have E := zo (zaC HOK e); obtain ⟨⟨b1, b2⟩, b3, b4⟩ := ze3 (by rw [HQ.out]; exact H4.out) (show 1 ≤ d.r ∧ d.r ≤ 256 by omega)
      obtain ⟨b5, b6⟩ := Qx H2.out; obtain ⟨b7, b8⟩ := Qx H3.out; have mr := jX (a := d.r) (b := d.r) (m := 256) (k := 256) (by omega) (by omega) (by omega) (by omega); have gx : -100000 ≤ x ∧ x ≤ 100000 := by omega
      have gy : -100000 ≤ y ∧ y ≤ 100000 := by omega
      clear e h2 h3 h4 HOK hx hy hr; go_enter func24, ntmps24
      go_upto_region 0 with fail
      refine wp_region_lit ?_
      (refine jd (t := 45) B ?_; clear B; intro b_d3 wn zb zd d3 za zf zk B)
      refine z7 1 ?_; go_upto_region 1 with fail
      refine qz 1 ?_
      refine qe B (zE func62) (c := kO d q _ (by omega) (by omega) (by omega) HQ.out) ?_; clear B; intro wn za zf zg B
      replace d3 := d3.be za
      (refine jH (t := 38) (zN _ _ rfl) B ?_; clear B; intro b_r7 wn zb zd r7 za zf zk B; replace d3 := d3.be za)
      (refine qZ (hone := (by simp [jP, Value.oneCell'])) r7 B ?_; clear r7 B; intro wn r7 ze zf zg B; replace d3 := d3.cg ze)
      refine wpList_nil ?_; replace r7 : zw 38 _ b_r7 (jP q) := r7; go_upto_region 2 with fail
      refine qz 11 ?_
      refine qe B (zE func53) (c := kU d.x true _ H2.out) ?_; clear B; intro wn za zf zg B
      replace d3 := d3.be za
      replace r7 := r7.be za; refine jL 5 ?_
      refine qe B (zE func53) (c := kU d.y true _ H3.out) ?_; clear B; intro wn za zf zg B
      replace d3 := d3.be za
      replace r7 := r7.be za; refine jL 7 ?_
      refine qe B (zE func25) (c := zai q x y true _ H4.out) ?_; clear B; intro wn za zf zg B
      replace d3 := d3.be za
      replace r7 := r7.be za; refine z7 2 ?_; clear r7; go_wp2; go_loopw [8, 9, 10, 11, 12, 43] (fun nv _ _ _ _ iv wr => ∃ (i : Nat) (n0 : Int), i ≤ 4 ∧ iv = .int .i64 (i : Int) ∧ nv = .int .i64 n0 ∧ (0 ≤ n0 ∧ n0 ≤ 4 * (i : Int)) ∧ Hid (yw d x y σP (4 * i) = n0) ∧ Below w.heap.size w wr ∧ zw 45 wr b_d3 (kA.enc d)) (fun _ _ _ _ _ iv _ => (4 - intOf iv).toNat)
      case atStart => exact ⟨0, 0, by omega, rfl, rfl, by omega, zo rfl, B, d3⟩
      case round =>
       clear B d3; obtain ⟨i, n0, hi, rfl, rfl, hn0, HS, B, d3⟩ := hrel; by_cases hi1 : i < 4
       ·have q5 : decide ((i : Int) < 4) = true := zQ (by omega)
        have q6 : decide (i < 4) = true := zQ hi1; go_upto_region 6 with fail
        refine zS 1 ?_; go_upto_region 7 with fail
        refine zS 2 ?_; go_upto_region 8 with fail
        refine zS 1 ?_; go_wp2; go_loopw [8, 10, 11, 12, 46] (fun nv _ _ _ jv wr => ∃ (j : Nat) (n1 : Int), j ≤ 4 ∧ jv = .int .i64 (j : Int) ∧ nv = .int .i64 n1 ∧ (0 ≤ n1 ∧ n1 ≤ 4 * (i : Int) + (j : Int)) ∧ Hid (yw d x y σP (4 * i + j) = n1) ∧ Below w.heap.size w wr ∧ zw 45 wr b_d3 (kA.enc d)) (fun _ _ _ _ jv _ => (4 - intOf jv).toNat)
        case atStart => exact ⟨0, n0, by omega, rfl, rfl, by omega, HS, B, d3⟩
        case round =>
         clear B d3 hn0; obtain ⟨j, n1, hj, rfl, rfl, hn1, HS1, B, d3⟩ := hrel; by_cases hj1 : j < 4
         ·have q7 : decide ((j : Int) < 4) = true := zQ (by omega)
          have q8 : decide (j < 4) = true := zQ hj1; obtain ⟨m1, m2⟩ := Zu (x := (16 * x + 4 * (i : Int) + 2 - d.x)) (m := 400) (by omega) (by omega); obtain ⟨m3, m4⟩ := Zu (x := (16 * y + 4 * (j : Int) + 2 - d.y)) (m := 400) (by omega) (by omega); have hσ : σP (4 * i + j) = (i, j) := by unfold σP; rw [show (4 * i + j) / 4 = i by omega, show (4 * i + j) % 4 = j by omega]
          have hhit : ZE d x y i j = decide ((16 * x + 4 * (i : Int) + 2 - d.x) * (16 * x + 4 * (i : Int) + 2 - d.x) + (16 * y + 4 * (j : Int) + 2 - d.y) * (16 * y + 4 * (j : Int) + 2 - d.y) ≤ d.r * d.r) := by unfold ZE dx4; rw [show 16 * x + (4 * (i : Int) + 2) - d.x = (16 * x + 4 * (i : Int) + 2 - d.x) by omega, show 16 * y + (4 * (j : Int) + 2) - d.y = (16 * y + 4 * (j : Int) + 2 - d.y) by omega]
          cases hh : ZE d x y i j with
          | true =>
           have q9 : decide ((16 * x + 4 * (i : Int) + 2 - d.x) * (16 * x + 4 * (i : Int) + 2 - d.x) + (16 * y + 4 * (j : Int) + 2 - d.y) * (16 * y + 4 * (j : Int) + 2 - d.y) ≤ d.r * d.r) = true := hhit.symm.trans hh; have HN := zo (Qj HS1.out hσ hh); clear hhit hh hσ; go_upto_region 9 with fail
           refine zS 1 ?_; go_upto_region 10 with fail
           refine zS 2 ?_; go_upto_region 11 with fail
           refine zS 10 ?_; go_upto_region 12 with fail
           refine zS 10 ?_; go_upto_region 13 with fail
           refine zS 13 ?_; go_upto_region 14 with fail
           refine zS 3 ?_; go_upto_region 15 with fail
           refine zS 2 ?_; go_wp2; go_roundw
           case rel => exact ⟨j + 1, _, by omega, by go_num, rfl, by omega, HN, B, d3⟩
           case measure => simp [intOf]; omega
          | false =>
           have q9 : decide ((16 * x + 4 * (i : Int) + 2 - d.x) * (16 * x + 4 * (i : Int) + 2 - d.x) + (16 * y + 4 * (j : Int) + 2 - d.y) * (16 * y + 4 * (j : Int) + 2 - d.y) ≤ d.r * d.r) = false := hhit.symm.trans hh; have HN := zo (Qj HS1.out hσ hh); clear hhit hh hσ; go_upto_region 9 with fail
           refine zS 1 ?_; go_upto_region 10 with fail
           refine zS 2 ?_; go_upto_region 11 with fail
           refine zS 10 ?_; go_upto_region 12 with fail
           refine zS 10 ?_; go_upto_region 13 with fail
           refine zS 13 ?_; go_upto_region 15 with fail
           refine zS 2 ?_; go_wp2; go_roundw
           case rel => exact ⟨j + 1, _, by omega, by go_num, rfl, by omega, HN, B, d3⟩
           case measure => simp [intOf]; omega
         ·have q7 : decide ((j : Int) < 4) = false := zB (by omega)
          have q8 : decide (j < 4) = false := zB hj1; have HN := zo (show yw d x y σP (4 * (i + 1)) = n1 from by rw [show 4 * (i + 1) = 4 * i + j by omega]; exact HS1.out)
          go_upto_region 9 with fail
          refine zS 1 ?_; go_upto_region 16 with fail
          refine zS 2 ?_; go_wp2; go_roundw
          case rel => exact ⟨i + 1, n1, by omega, by go_num, rfl, by omega, HN, B, d3⟩
          case measure => simp [intOf]; omega
       ·have q5 : decide ((i : Int) < 4) = false := zB (by omega)
        have q6 : decide (i < 4) = false := zB hi1; have HN := zo (show zG (255 * n0) 16 = n from by rw [← E.out]; congr 2; rw [← HS.out, show 4 * i = 16 by omega]; rfl)
        clear d3; go_upto_region 6 with fail
        refine zS 1 ?_; go_upto_region 17 with fail
        refine qz 2 ?_; refine qe B (zE func68) (c := wg (255 * n0) 16 n _ (by omega) (by omega) (by omega) (by omega) HN.out) ?_; clear B; intro wn za zf zg B; refine z7 1 ?_; go_wp2; go_ret; exact ⟨rfl, B⟩
theorem zf2 (s : jb) (h : s.pts.length = 1 ∨ True) : decide (yn s.pts - s.pha ≤ 1024 * s.spa) = decide (yn s.pts ≤ s.pha + 1024 * s.spa) := by
 rw [Bool.eq_iff_iff, decide_eq_true_iff, decide_eq_true_iff]
 omega
theorem zf3 {s : jb} (h : s.pts.length = 1) (h1 : 0 ≤ s.pha) (h2 : 1 ≤ s.spa) : decide (yn s.pts - s.pha ≤ 1024 * s.spa) = true := by
 unfold yn
 rw [h]
 refine zQ ?_
 show (0 : Int) - s.pha ≤ _
 omega
theorem wo (v : Value) (s : jb) (b : Bool) (w : World) (rs : xh jf v s.pts w) (hn : s.pts.length ≤ 17592186044416) (e : jT s = b) : Calls Tryz.prog 17 #[.agg (jg v s)] w fun e w' => e = .returned (.bool b) ∧ Below w.heap.size w w' := by
 have B := Below.refl w.heap.size w
 obtain ⟨a, c, rfl, hc⟩ := rs.len
 have HS := zo rs
 by_cases h0 : (s.pts.length : Int) < 1
 ·have q0 : decide ((s.pts.length : Int) < 1) = true := zQ h0
  have p0 : decide (s.pts.length < 1) = true := zQ (by omega); obtain rfl : b = false := by rw [← e]; exact yu (by omega)
  clear e; go_enter func17, ntmps17
  go_upto_region 0 with fail
  refine wp_region_lit ?_
  (refine jd (t := 30) B ?_; clear B; intro b_r1 wn zb zd r1 za zf zk B; replace rs := rs.be za)
  refine z7 1 ?_; go_upto_region 1 with fail
  refine qz 2 ?_
  refine j1 underlying26 ?_; refine jL 4 ?_
  refine qm ?hs2_7 ?_
  case hs2_7 => kernel_rfl
  simp only [zn]; refine z7 32 ?_; go_upto_region 2 with fail
  refine zS 1 ?_; go_wp2; go_ret; exact ⟨rfl, B⟩
 ·by_cases h1 : 64 < (s.pts.length : Int)
  ·have q0 : decide ((s.pts.length : Int) < 1) = false := zB h0
   have q1 : decide (64 < (s.pts.length : Int)) = true := zQ h1; have p0 : decide (s.pts.length < 1) = false := zB (by omega); have p1 : decide (64 < s.pts.length) = true := zQ (by omega); obtain rfl : b = false := by rw [← e]; exact yu (by omega)
   clear e; go_enter func17, ntmps17
   go_upto_region 0 with fail
   refine wp_region_lit ?_
   (refine jd (t := 30) B ?_; clear B; intro b_r1 wn zb zd r1 za zf zk B; replace rs := rs.be za)
   refine z7 1 ?_; go_upto_region 1 with fail
   refine qz 2 ?_
   refine j1 underlying26 ?_; refine jL 4 ?_
   refine j1 underlying26 ?_; refine z7 32 ?_; go_upto_region 2 with fail
   refine zS 1 ?_; go_wp2; go_ret; exact ⟨rfl, B⟩
  ·by_cases h2 : s.rad < 1
   ·have q0 : decide ((s.pts.length : Int) < 1) = false := zB h0
    have q1 : decide (64 < (s.pts.length : Int)) = false := zB h1; have q2 : decide (s.rad < 1) = true := zQ h2; have p0 : decide (s.pts.length < 1) = false := zB (by omega); have p1 : decide (64 < s.pts.length) = false := zB (by omega); obtain rfl : b = false := by rw [← e]; exact yu (by omega)
    clear e; go_enter func17, ntmps17
    go_upto_region 0 with fail
    refine wp_region_lit ?_
    (refine jd (t := 30) B ?_; clear B; intro b_r1 wn zb zd r1 za zf zk B; replace rs := rs.be za)
    refine z7 1 ?_; go_upto_region 1 with fail
    refine qz 2 ?_
    refine j1 underlying26 ?_; refine jL 4 ?_
    refine j1 underlying26 ?_; refine z7 32 ?_; go_upto_region 2 with fail
    refine zS 1 ?_; go_wp2; go_ret; exact ⟨rfl, B⟩
   ·by_cases h3 : 256 < s.rad
    ·have q0 : decide ((s.pts.length : Int) < 1) = false := zB h0
     have q1 : decide (64 < (s.pts.length : Int)) = false := zB h1; have q2 : decide (s.rad < 1) = false := zB h2; have q3 : decide (256 < s.rad) = true := zQ h3; have p0 : decide (s.pts.length < 1) = false := zB (by omega); have p1 : decide (64 < s.pts.length) = false := zB (by omega); obtain rfl : b = false := by rw [← e]; exact yu (by omega)
     clear e; go_enter func17, ntmps17
     go_upto_region 0 with fail
     refine wp_region_lit ?_
     (refine jd (t := 30) B ?_; clear B; intro b_r1 wn zb zd r1 za zf zk B; replace rs := rs.be za)
     refine z7 1 ?_; go_upto_region 1 with fail
     refine qz 2 ?_
     refine j1 underlying26 ?_; refine jL 4 ?_
     refine j1 underlying26 ?_; refine z7 32 ?_; go_upto_region 2 with fail
     refine zS 1 ?_; go_wp2; go_ret; exact ⟨rfl, B⟩
    ·by_cases h4 : s.spa < 1
     ·have q0 : decide ((s.pts.length : Int) < 1) = false := zB h0
      have q1 : decide (64 < (s.pts.length : Int)) = false := zB h1; have q2 : decide (s.rad < 1) = false := zB h2; have q3 : decide (256 < s.rad) = false := zB h3; have q4 : decide (s.spa < 1) = true := zQ h4; have p0 : decide (s.pts.length < 1) = false := zB (by omega); have p1 : decide (64 < s.pts.length) = false := zB (by omega); obtain rfl : b = false := by rw [← e]; exact yu (by omega)
      clear e; go_enter func17, ntmps17
      go_upto_region 0 with fail
      refine wp_region_lit ?_
      (refine jd (t := 30) B ?_; clear B; intro b_r1 wn zb zd r1 za zf zk B; replace rs := rs.be za)
      refine z7 1 ?_; go_upto_region 1 with fail
      refine qz 2 ?_
      refine j1 underlying26 ?_; refine jL 4 ?_
      refine j1 underlying26 ?_; refine z7 32 ?_; go_upto_region 2 with fail
      refine zS 1 ?_; go_wp2; go_ret; exact ⟨rfl, B⟩
     ·by_cases h5 : 4096 < s.spa
      ·have q0 : decide ((s.pts.length : Int) < 1) = false := zB h0
       have q1 : decide (64 < (s.pts.length : Int)) = false := zB h1; have q2 : decide (s.rad < 1) = false := zB h2; have q3 : decide (256 < s.rad) = false := zB h3; have q4 : decide (s.spa < 1) = false := zB h4; have q5 : decide (4096 < s.spa) = true := zQ h5; have p0 : decide (s.pts.length < 1) = false := zB (by omega); have p1 : decide (64 < s.pts.length) = false := zB (by omega); obtain rfl : b = false := by rw [← e]; exact yu (by omega)
       clear e; go_enter func17, ntmps17
       go_upto_region 0 with fail
       refine wp_region_lit ?_
       (refine jd (t := 30) B ?_; clear B; intro b_r1 wn zb zd r1 za zf zk B; replace rs := rs.be za)
       refine z7 1 ?_; go_upto_region 1 with fail
       refine qz 2 ?_
       refine j1 underlying26 ?_; refine jL 4 ?_
       refine j1 underlying26 ?_; refine z7 32 ?_; go_upto_region 2 with fail
       refine zS 1 ?_; go_wp2; go_ret; exact ⟨rfl, B⟩
      ·by_cases h6 : s.pha < 0
       ·have q0 : decide ((s.pts.length : Int) < 1) = false := zB h0
        have q1 : decide (64 < (s.pts.length : Int)) = false := zB h1; have q2 : decide (s.rad < 1) = false := zB h2; have q3 : decide (256 < s.rad) = false := zB h3; have q4 : decide (s.spa < 1) = false := zB h4; have q5 : decide (4096 < s.spa) = false := zB h5; have q6 : decide (s.pha < 0) = true := zQ h6; have p0 : decide (s.pts.length < 1) = false := zB (by omega); have p1 : decide (64 < s.pts.length) = false := zB (by omega); obtain rfl : b = false := by rw [← e]; exact yu (by omega)
        clear e; go_enter func17, ntmps17
        go_upto_region 0 with fail
        refine wp_region_lit ?_
        (refine jd (t := 30) B ?_; clear B; intro b_r1 wn zb zd r1 za zf zk B; replace rs := rs.be za)
        refine z7 1 ?_; go_upto_region 1 with fail
        refine qz 2 ?_
        refine j1 underlying26 ?_; refine jL 4 ?_
        refine j1 underlying26 ?_; refine z7 32 ?_; go_upto_region 2 with fail
        refine zS 1 ?_; go_wp2; go_ret; exact ⟨rfl, B⟩
       ·by_cases h7 : 1048575 < s.pha
        ·have q0 : decide ((s.pts.length : Int) < 1) = false := zB h0
         have q1 : decide (64 < (s.pts.length : Int)) = false := zB h1; have q2 : decide (s.rad < 1) = false := zB h2; have q3 : decide (256 < s.rad) = false := zB h3; have q4 : decide (s.spa < 1) = false := zB h4; have q5 : decide (4096 < s.spa) = false := zB h5; have q6 : decide (s.pha < 0) = false := zB h6; have q7 : decide (1048575 < s.pha) = true := zQ h7; have p0 : decide (s.pts.length < 1) = false := zB (by omega); have p1 : decide (64 < s.pts.length) = false := zB (by omega); obtain rfl : b = false := by rw [← e]; exact yu (by omega)
         clear e; go_enter func17, ntmps17
         go_upto_region 0 with fail
         refine wp_region_lit ?_
         (refine jd (t := 30) B ?_; clear B; intro b_r1 wn zb zd r1 za zf zk B; replace rs := rs.be za)
         refine z7 1 ?_; go_upto_region 1 with fail
         refine qz 2 ?_
         refine j1 underlying26 ?_; refine jL 4 ?_
         refine j1 underlying26 ?_; refine z7 32 ?_; go_upto_region 2 with fail
         refine zS 1 ?_; go_wp2; go_ret; exact ⟨rfl, B⟩
        ·have q0 : decide ((s.pts.length : Int) < 1) = false := zB h0
         have q1 : decide (64 < (s.pts.length : Int)) = false := zB h1; have q2 : decide (s.rad < 1) = false := zB h2; have q3 : decide (256 < s.rad) = false := zB h3; have q4 : decide (s.spa < 1) = false := zB h4; have q5 : decide (4096 < s.spa) = false := zB h5; have q6 : decide (s.pha < 0) = false := zB h6; have q7 : decide (1048575 < s.pha) = false := zB h7; have p0 : decide (s.pts.length < 1) = false := zB (by omega); have p1 : decide (64 < s.pts.length) = false := zB (by omega); have HV := za1 (s := s) (by omega); rw [HV] at e; clear HV; go_enter func17, ntmps17
         go_upto_region 0 with fail
         refine wp_region_lit ?_
         (refine jd (t := 30) B ?_; clear B; intro b_r1 wn zb zd r1 za zf zk B; replace rs := rs.be za)
         refine z7 1 ?_; go_upto_region 1 with fail
         refine qz 2 ?_
         refine j1 underlying26 ?_; refine jL 4 ?_
         refine j1 underlying26 ?_; refine z7 32 ?_; have HLE := Z1 s.pts; have HOI := zen s.pts; obtain ⟨m, hm⟩ : ∃ m, idxS s.pts = m := ⟨_, rfl⟩; have HLT := zo (fun k (h : k < idxS s.pts) => YO h); have HAT := zo (fun (h : idxS s.pts < s.pts.length) => YN h); rw [hm] at HLE HOI HLT HAT; have E := zo e; have HO := zo HOI; have HB1 := B.size; clear rs e hm HOI; go_wp2; go_loopw [3] (fun iv wr => ∃ k : Nat, k ≤ m ∧ iv = .int .i64 (k : Int) ∧ Below w.heap.size w wr ∧ zw 30 wr b_r1 (jg (.slice a s.pts.length c) s)) (fun iv _ => (s.pts.length - intOf iv).toNat)
         case atStart => exact ⟨0, by omega, rfl, B, r1⟩
         case round =>
          clear B r1; obtain ⟨k, hk, rfl, B, r1⟩ := hrel; by_cases hkl : k < s.pts.length
          ·have q8 : decide ((k : Int) < (s.pts.length : Int)) = true := zQ (by omega)
           have q9 : decide (k < s.pts.length) = true := zQ hkl; obtain ⟨g, o, rfl, pc0⟩ := HS.out.at (by omega); have pc := pc0.of_eq (B.block _ pc0.lt); clear pc0; have hp := qG hkl; have k1 := r1.lt; by_cases hki : k < m
           ·have HB := zo (show Zz (jc s.pts k) = false from HLT.out k hki)
            generalize hx1 : jc s.pts k = x1 at *
            clear hx1; go_upto_region 4 with fail
            refine qz 3 ?_
            refine j1 underlying26 ?_; refine z7 1 ?_; go_upto_region 6 with fail
            refine wp_region_lit ?_; refine jD 5 ?_
            repeat (first | go_big_quiet_skip | (go_big_quiet_want; first | ((first | refine zq (fun w hw => (qD pc w hw).load isAgg43 hp) ?_ | refine qB ?_ | refine qC ?_); simp only [zn]; go_big_quiet_on) | (go_big_quiet_op; go_big_quiet_on)))
            refine wpQuiet_nil ?_
            (refine jH (t := 43) (xn _ _ rfl) B ?_; clear B; intro b_p4 wn zb zd p4 za zf zk B; replace r1 := r1.be za; replace pc := pc.be za)
            (refine qZ (hone := (by simp [jf, Value.oneCell'])) p4 B ?_; clear p4 B; intro wn p4 ze zf zg B; replace r1 := r1.cg ze)
            refine wpList_nil ?_; replace p4 : zw 43 _ b_p4 (jf.enc x1) := p4; have e3 := HB.out; rw [Wv] at e3; rw [Bool.or_eq_false_iff, Bool.or_eq_false_iff, Bool.or_eq_false_iff, Bool.not_eq_false', Bool.not_eq_false'] at e3; obtain ⟨e4, e5, e6, e7⟩ := e3; have H4 := zo e4; have H5 := zo e5; clear e4 e5; go_upto_region 7 with fail
            refine qz 2 ?_
            refine qe B (zE func55) (c := xi x1.x true _ H4.out) ?_; clear B; intro wn za zf zg B
            replace r1 := r1.be za
            replace p4 := p4.be za
            refine jL 4 ?_
            refine qe B (zE func55) (c := xi x1.y true _ H5.out) ?_; clear B; intro wn za zf zg B
            replace r1 := r1.be za
            replace p4 := p4.be za
            refine z7 12 ?_; go_upto_region 5 with fail
            refine zS 3 ?_; go_wp2; go_roundw
            case rel => exact ⟨k + 1, by omega, by go_num, B, r1⟩
            case measure => simp [intOf]; omega
           ·have HB := zo (show Zz (jc s.pts k) = true from by rw [show k = m by omega]; exact HAT.out (by omega))
            generalize hx1 : jc s.pts k = x1 at *
            clear hx1; go_upto_region 4 with fail
            refine qz 3 ?_
            refine j1 underlying26 ?_; refine z7 1 ?_; go_upto_region 6 with fail
            refine wp_region_lit ?_; refine jD 5 ?_
            repeat (first | go_big_quiet_skip | (go_big_quiet_want; first | ((first | refine zq (fun w hw => (qD pc w hw).load isAgg43 hp) ?_ | refine qB ?_ | refine qC ?_); simp only [zn]; go_big_quiet_on) | (go_big_quiet_op; go_big_quiet_on)))
            refine wpQuiet_nil ?_
            (refine jH (t := 43) (xn _ _ rfl) B ?_; clear B; intro b_p4 wn zb zd p4 za zf zk B; replace r1 := r1.be za; replace pc := pc.be za)
            (refine qZ (hone := (by simp [jf, Value.oneCell'])) p4 B ?_; clear p4 B; intro wn p4 ze zf zg B; replace r1 := r1.cg ze)
            refine wpList_nil ?_; replace p4 : zw 43 _ b_p4 (jf.enc x1) := p4; have e3 := HB.out; rw [Wv] at e3; have HF := zo (show Ending.returned (.bool false) = Ending.returned (.bool b) from by rw [← E.out, show ul s.pts = false from by cases h : ul s.pts with | false => rfl | true => (have := HO.out.1 h; omega)]; rfl)
            obtain ⟨i1, hi1⟩ : ∃ i, vk x1.x = i := ⟨_, rfl⟩; obtain ⟨i2, hi2⟩ : ∃ i, vk x1.y = i := ⟨_, rfl⟩; rw [hi1, hi2] at e3; have H4 := zo hi1; have H5 := zo hi2; clear hi1 hi2; cases i1 with
            | false =>
             clear e3; go_upto_region 7 with fail
             refine qz 2 ?_
             refine qe B (zE func55) (c := xi x1.x false _ H4.out) ?_; clear B; intro wn za zf zg B
             replace r1 := r1.be za
             replace p4 := p4.be za
             refine jL 4 ?_
             refine qm ?hs33_7 ?_
             case hs33_7 => kernel_rfl
             simp only [zn]; refine z7 12 ?_; go_upto_region 8 with fail
             refine zS 1 ?_; go_wp2; go_ret; exact ⟨HF.out, B⟩
            | true =>
             cases i2 with
             | false =>
              clear e3; go_upto_region 7 with fail
              refine qz 2 ?_
              refine qe B (zE func55) (c := xi x1.x true _ H4.out) ?_; clear B; intro wn za zf zg B
              replace r1 := r1.be za
              replace p4 := p4.be za
              refine jL 4 ?_
              refine qe B (zE func55) (c := xi x1.y false _ H5.out) ?_; clear B; intro wn za zf zg B
              replace r1 := r1.be za
              replace p4 := p4.be za
              refine z7 12 ?_; go_upto_region 8 with fail
              refine zS 1 ?_; go_wp2; go_ret; exact ⟨HF.out, B⟩
             | true =>
              obtain ⟨i3, hi3⟩ : ∃ i, decide (x1.p < 0) = i := ⟨_, rfl⟩; obtain ⟨i4, hi4⟩ : ∃ i, decide (255 < x1.p) = i := ⟨_, rfl⟩; rw [hi3, hi4] at e3; have e6 : (i3 || i4) = true := by rw [← e3]; cases i3 <;> cases i4 <;> rfl
              clear e3; cases i3 with
              | true =>
               clear e6; go_upto_region 7 with fail
               refine qz 2 ?_
               refine qe B (zE func55) (c := xi x1.x true _ H4.out) ?_; clear B; intro wn za zf zg B
               replace r1 := r1.be za
               replace p4 := p4.be za
               refine jL 4 ?_
               refine qe B (zE func55) (c := xi x1.y true _ H5.out) ?_; clear B; intro wn za zf zg B
               replace r1 := r1.be za
               replace p4 := p4.be za
               refine z7 12 ?_; go_upto_region 8 with fail
               refine zS 1 ?_; go_wp2; go_ret; exact ⟨HF.out, B⟩
              | false =>
               obtain rfl : i4 = true := e6; go_upto_region 7 with fail
               refine qz 2 ?_
               refine qe B (zE func55) (c := xi x1.x true _ H4.out) ?_; clear B; intro wn za zf zg B
               replace r1 := r1.be za
               replace p4 := p4.be za
               refine jL 4 ?_
               refine qe B (zE func55) (c := xi x1.y true _ H5.out) ?_; clear B; intro wn za zf zg B
               replace r1 := r1.be za
               replace p4 := p4.be za
               refine z7 12 ?_; go_upto_region 8 with fail
               refine zS 1 ?_; go_wp2; go_ret; exact ⟨HF.out, B⟩
          ·have q8 : decide ((k : Int) < (s.pts.length : Int)) = false := zB (by omega)
           have q9 : decide (k < s.pts.length) = false := zB hkl; have hml : m = s.pts.length := by omega
           have hok := HO.out.2 hml; have HOP := zo (XX hok); have e2 := E.out; rw [hok, Bool.true_and] at e2; have rs := HS.out.be B; by_cases h1 : s.pts.length = 1
           ·have q10 : ((s.pts.length : Int) == 1) = true := by rw [h1]; rfl
            have q11 : decide ((s.pts.length : Int) = 1) = true := zQ (by omega); have q12 : (s.pts.length == 1) = true := by rw [h1]; rfl
            have q13 : decide (s.pts.length = 1) = true := zQ h1; have HF := zo (show Ending.returned (.bool true) = Ending.returned (.bool b) from by rw [← e2, zf3 h1 (by omega) (by omega)]); clear e2 h1 hok hml; go_upto_region 4 with fail
            refine qz 3 ?_
            refine j1 underlying26 ?_; refine z7 1 ?_; go_upto_region 9 with fail
            have lx_r1 := r1.lt
            refine zA 17 [(2, zF ?v1_2)] (by kernel_rfl) (by kernel_rfl) (by kernel_rfl) ?_
            rotate_left 1
            simp only [jS, Nat.reduceAdd]; refine vi 2 ?_
            refine zcB ?_ ?_
            ·intro wn za hE Kx hKx
             obtain ⟨zf, zg, B⟩ := zM B za
             replace r1 := r1.be za
             replace rs := rs.be za
             refine kK rfl underlying26 rfl ?_; exact hKx () _ trivial (Below.refl _ _)
            rintro ⟨⟩
            dsimp only [zF]
            simp only [zn]; refine vi 10 ?_
            refine wO ?hw1_13 ?_
            case hw1_13 => kernel_rfl
            simp only [zn]; refine vi 3 ?_; refine qi ?_; intro wn za hE; obtain ⟨zf, zg, B⟩ := zM B za
            replace r1 := r1.be za
            replace rs := rs.be za
            clear hE; try simp only [List.drop_succ_cons, List.drop_zero]
            refine zI.normal ?_; go_wp2; go_ret; exact ⟨HF.out, B⟩
           ·have q10 : ((s.pts.length : Int) == 1) = false := by simp; omega
            have q11 : decide ((s.pts.length : Int) = 1) = false := zB (by omega); have q12 : (s.pts.length == 1) = false := by simp; omega
            have q13 : decide (s.pts.length = 1) = false := zB h1; have HTT : 0 ≤ yn s.pts ∧ yn s.pts ≤ 189812544 := by
             have h1 := Zc HOP.out (s.pts.length - 1) (by omega); exact ⟨wZ _ _, by show jK s.pts (s.pts.length - 1) ≤ _; omega⟩
            rw [zf2 s (.inr trivial)] at e2; obtain ⟨t, ht⟩ : ∃ t, yn s.pts = t := ⟨_, rfl⟩; rw [ht] at e2 HTT; have HT := zo ht; have HF := zo (show Ending.returned (.bool (decide (t ≤ s.pha + 1024 * s.spa))) = Ending.returned (.bool b) from by rw [e2]); clear e2 hok hml ht h1; go_upto_region 4 with fail
            refine qz 3 ?_
            refine j1 underlying26 ?_; refine z7 1 ?_; go_upto_region 9 with fail
            have lx_r1 := r1.lt
            refine zA 17 [(2, zF ?v2_2), (13, zF ?v2_13)] (by kernel_rfl) (by kernel_rfl) (by kernel_rfl) ?_
            rotate_left 2
            simp only [jS, Nat.reduceAdd]; refine vi 2 ?_
            refine zcB ?_ ?_
            ·intro wn za hE Kx hKx
             obtain ⟨zf, zg, B⟩ := zM B za
             replace r1 := r1.be za
             replace rs := rs.be za
             refine kK rfl underlying26 rfl ?_; exact hKx () _ trivial (Below.refl _ _)
            rintro ⟨⟩
            dsimp only [zF]
            simp only [zn]; refine vi 10 ?_
            refine qv (by rfl) ?hw2_13 ?_ ?_
            case hw2_13 => kernel_rfl
            ·intro wn za hE Kx hKx
             obtain ⟨zf, zg, B⟩ := zM B za
             replace rs := rs.be za
             refine zcF func56 ?_
             refine (zax _ s.pts t wn rs (by omega) HOP.out HT.out).mono ?_; rintro e wm ⟨rfl, zl⟩; refine ⟨_, rfl, ?_⟩; have hz := hKx () wm trivial zl
             dsimp only [zF] at hz
             exact hz
            rintro ⟨⟩
            dsimp only [zF]
            simp only [zn]; refine vi 3 ?_; refine qi ?_; intro wn za hE; obtain ⟨zf, zg, B⟩ := zM B za; clear hE; try simp only [List.drop_succ_cons, List.drop_zero]
            refine zI.normal ?_; go_wp2; go_ret; exact ⟨HF.out, B⟩
theorem Jf {d : Db} {x y : Int} (h1 : ¬ d.r < 1) (h2 : ¬ 256 < d.r) (h3 : vk d.x = true) (h4 : vk d.y = true) (h : x < -80000 ∨ 80000 < x ∨ y < -80000 ∨ 80000 < y) : kP d x y = 0 := by
 refine K5 ?_
 have k3 := Qx h3
 have k4 := Qx h4
 cases hh : jx (kZ d) x y with
 | false => rfl
 | true =>
  have := (xe _ _ _).1 hh; unfold kZ at this; simp only at this; omega
theorem zfG (d : Db) (x y n : Int) (w : World) (e : kP d x y = n) : Calls Tryz.prog 94 #[.agg (kA.enc d), .int .i64 x, .int .i64 y] w fun e w' => e = .returned (.int .i64 n) ∧ Below w.heap.size w w' := by
 have B := Below.refl w.heap.size w
 by_cases h0 : d.r < 1
 ·have q0 : decide (d.r < 1) = true := zQ h0
  obtain rfl : n = 0 := by rw [← e]; exact vO (.inl h0) x y
  clear e ; go_enter func94, ntmps94
  go_upto_region 0 with fail
  refine wp_region_lit ?_
  (refine jd (t := 45) B ?_; clear B; intro b_d3 wn zb zd d3 za zf zk B)
  refine z7 1 ?_; go_upto_region 1 with fail
  refine qz 11 ?_
  refine qm ?hs44_11 ?_
  case hs44_11 => kernel_rfl
  simp only [zn]; refine jL 5 ?_
  refine qm ?hs44_17 ?_
  case hs44_17 => kernel_rfl
  simp only [zn]; refine z7 18 ?_; go_upto_region 2 with fail
  refine zS 1 ?_; go_wp2; go_ret; exact ⟨rfl, B⟩
 ·by_cases h1 : 256 < d.r
  ·have q0 : decide (d.r < 1) = false := zB h0
   have q1 : decide (256 < d.r) = true := zQ h1; obtain rfl : n = 0 := by rw [← e]; exact vO (.inr (.inl h1)) x y
   clear e ; go_enter func94, ntmps94
   go_upto_region 0 with fail
   refine wp_region_lit ?_
   (refine jd (t := 45) B ?_; clear B; intro b_d3 wn zb zd d3 za zf zk B)
   refine z7 1 ?_; go_upto_region 1 with fail
   refine qz 11 ?_
   refine qm ?hs47_11 ?_
   case hs47_11 => kernel_rfl
   simp only [zn]; refine jL 5 ?_
   refine qm ?hs47_17 ?_
   case hs47_17 => kernel_rfl
   simp only [zn]; refine z7 18 ?_; go_upto_region 2 with fail
   refine zS 1 ?_; go_wp2; go_ret; exact ⟨rfl, B⟩
  ·by_cases h2 : vk d.x = false
   ·have q0 : decide (d.r < 1) = false := zB h0
    have q1 : decide (256 < d.r) = false := zB h1; have H2 := zo (show vk d.x = false from h2); obtain rfl : n = 0 := by rw [← e]; exact vO (.inr (.inr (.inl h2))) x y
    clear e h2; go_enter func94, ntmps94
    go_upto_region 0 with fail
    refine wp_region_lit ?_
    (refine jd (t := 45) B ?_; clear B; intro b_d3 wn zb zd d3 za zf zk B)
    refine z7 1 ?_; go_upto_region 1 with fail
    refine qz 11 ?_
    refine qe B (zE func55) (c := xi d.x false _ H2.out) ?_; clear B; intro wn za zf zg B
    replace d3 := d3.be za; refine jL 5 ?_
    refine qm ?hs50_17 ?_
    case hs50_17 => kernel_rfl
    simp only [zn]; refine z7 18 ?_; go_upto_region 2 with fail
    refine zS 1 ?_; go_wp2; go_ret; exact ⟨rfl, B⟩
   ·by_cases h3 : vk d.y = false
    ·have q0 : decide (d.r < 1) = false := zB h0
     have q1 : decide (256 < d.r) = false := zB h1; have H2 := zo (show vk d.x = true from by simpa using h2); have H3 := zo (show vk d.y = false from h3); obtain rfl : n = 0 := by rw [← e]; exact vO (.inr (.inr (.inr h3))) x y
     clear e h2 h3; go_enter func94, ntmps94
     go_upto_region 0 with fail
     refine wp_region_lit ?_
     (refine jd (t := 45) B ?_; clear B; intro b_d3 wn zb zd d3 za zf zk B)
     refine z7 1 ?_; go_upto_region 1 with fail
     refine qz 11 ?_
     refine qe B (zE func55) (c := xi d.x true _ H2.out) ?_; clear B; intro wn za zf zg B
     replace d3 := d3.be za; refine jL 5 ?_
     refine qe B (zE func55) (c := xi d.y false _ H3.out) ?_; clear B; intro wn za zf zg B
     replace d3 := d3.be za; refine z7 18 ?_; go_upto_region 2 with fail
     refine zS 1 ?_; go_wp2; go_ret; exact ⟨rfl, B⟩
    ·by_cases h4 : x < -80000
     ·have q0 : decide (d.r < 1) = false := zB h0
      have q1 : decide (256 < d.r) = false := zB h1; have H2 := zo (show vk d.x = true from by simpa using h2); have H3 := zo (show vk d.y = true from by simpa using h3); have q4 : decide (x < -80000) = true := zQ h4; obtain rfl : n = 0 := by rw [← e]; exact Jf h0 h1 H2.out H3.out (by omega)
      clear e h2 h3; go_enter func94, ntmps94
      go_upto_region 0 with fail
      refine wp_region_lit ?_
      (refine jd (t := 45) B ?_; clear B; intro b_d3 wn zb zd d3 za zf zk B)
      refine z7 1 ?_; go_upto_region 1 with fail
      refine qz 11 ?_
      refine qe B (zE func55) (c := xi d.x true _ H2.out) ?_; clear B; intro wn za zf zg B
      replace d3 := d3.be za; refine jL 5 ?_
      refine qe B (zE func55) (c := xi d.y true _ H3.out) ?_; clear B; intro wn za zf zg B
      replace d3 := d3.be za; refine z7 18 ?_; go_upto_region 2 with fail
      refine zS 1 ?_; go_wp2; go_ret; exact ⟨rfl, B⟩
     ·by_cases h5 : 80000 < x
      ·have q0 : decide (d.r < 1) = false := zB h0
       have q1 : decide (256 < d.r) = false := zB h1; have H2 := zo (show vk d.x = true from by simpa using h2); have H3 := zo (show vk d.y = true from by simpa using h3); have q4 : decide (x < -80000) = false := zB h4; have q5 : decide (80000 < x) = true := zQ h5; obtain rfl : n = 0 := by rw [← e]; exact Jf h0 h1 H2.out H3.out (by omega)
       clear e h2 h3; go_enter func94, ntmps94
       go_upto_region 0 with fail
       refine wp_region_lit ?_
       (refine jd (t := 45) B ?_; clear B; intro b_d3 wn zb zd d3 za zf zk B)
       refine z7 1 ?_; go_upto_region 1 with fail
       refine qz 11 ?_
       refine qe B (zE func55) (c := xi d.x true _ H2.out) ?_; clear B; intro wn za zf zg B
       replace d3 := d3.be za; refine jL 5 ?_
       refine qe B (zE func55) (c := xi d.y true _ H3.out) ?_; clear B; intro wn za zf zg B
       replace d3 := d3.be za; refine z7 18 ?_; go_upto_region 2 with fail
       refine zS 1 ?_; go_wp2; go_ret; exact ⟨rfl, B⟩
      ·by_cases h6 : y < -80000
       ·have q0 : decide (d.r < 1) = false := zB h0
        have q1 : decide (256 < d.r) = false := zB h1; have H2 := zo (show vk d.x = true from by simpa using h2); have H3 := zo (show vk d.y = true from by simpa using h3); have q4 : decide (x < -80000) = false := zB h4; have q5 : decide (80000 < x) = false := zB h5; have q6 : decide (y < -80000) = true := zQ h6; obtain rfl : n = 0 := by rw [← e]; exact Jf h0 h1 H2.out H3.out (by omega)
        clear e h2 h3; go_enter func94, ntmps94
        go_upto_region 0 with fail
        refine wp_region_lit ?_
        (refine jd (t := 45) B ?_; clear B; intro b_d3 wn zb zd d3 za zf zk B)
        refine z7 1 ?_; go_upto_region 1 with fail
        refine qz 11 ?_
        refine qe B (zE func55) (c := xi d.x true _ H2.out) ?_; clear B; intro wn za zf zg B
        replace d3 := d3.be za; refine jL 5 ?_
        refine qe B (zE func55) (c := xi d.y true _ H3.out) ?_; clear B; intro wn za zf zg B
        replace d3 := d3.be za; refine z7 18 ?_; go_upto_region 2 with fail
        refine zS 1 ?_; go_wp2; go_ret; exact ⟨rfl, B⟩
       ·by_cases h7 : 80000 < y
        ·have q0 : decide (d.r < 1) = false := zB h0
         have q1 : decide (256 < d.r) = false := zB h1; have H2 := zo (show vk d.x = true from by simpa using h2); have H3 := zo (show vk d.y = true from by simpa using h3); have q4 : decide (x < -80000) = false := zB h4; have q5 : decide (80000 < x) = false := zB h5; have q6 : decide (y < -80000) = false := zB h6; have q7 : decide (80000 < y) = true := zQ h7; obtain rfl : n = 0 := by rw [← e]; exact Jf h0 h1 H2.out H3.out (by omega)
         clear e h2 h3; go_enter func94, ntmps94
         go_upto_region 0 with fail
         refine wp_region_lit ?_
         (refine jd (t := 45) B ?_; clear B; intro b_d3 wn zb zd d3 za zf zk B)
         refine z7 1 ?_; go_upto_region 1 with fail
         refine qz 11 ?_
         refine qe B (zE func55) (c := xi d.x true _ H2.out) ?_; clear B; intro wn za zf zg B
         replace d3 := d3.be za; refine jL 5 ?_
         refine qe B (zE func55) (c := xi d.y true _ H3.out) ?_; clear B; intro wn za zf zg B
         replace d3 := d3.be za; refine z7 18 ?_; go_upto_region 2 with fail
         refine zS 1 ?_; go_wp2; go_ret; exact ⟨rfl, B⟩
        ·have q0 : decide (d.r < 1) = false := zB h0
         have q1 : decide (256 < d.r) = false := zB h1; have H2 := zo (show vk d.x = true from by simpa using h2); have H3 := zo (show vk d.y = true from by simpa using h3); have q4 : decide (x < -80000) = false := zB h4; have q5 : decide (80000 < x) = false := zB h5; have q6 : decide (y < -80000) = false := zB h6; have q7 : decide (80000 < y) = false := zB h7; have HOK := Vr h0 h1 H2.out H3.out; have E := zo (zaC HOK e); obtain ⟨b5, b6⟩ := Qx H2.out; obtain ⟨b7, b8⟩ := Qx H3.out; have mr := jX (a := d.r) (b := d.r) (m := 256) (k := 256) (by omega) (by omega) (by omega) (by omega); clear e h2 h3 HOK; go_enter func94, ntmps94
         go_upto_region 0 with fail
         refine wp_region_lit ?_
         (refine jd (t := 45) B ?_; clear B; intro b_d3 wn zb zd d3 za zf zk B)
         refine z7 1 ?_; go_upto_region 1 with fail
         refine qz 11 ?_
         refine qe B (zE func55) (c := xi d.x true _ H2.out) ?_; clear B; intro wn za zf zg B
         replace d3 := d3.be za; refine jL 5 ?_
         refine qe B (zE func55) (c := xi d.y true _ H3.out) ?_; clear B; intro wn za zf zg B
         replace d3 := d3.be za; refine z7 18 ?_; go_wp2; go_loopw [7, 8, 9, 10] (fun nv kv _ _ wr => ∃ (k : Nat) (n0 : Int), k ≤ 16 ∧ kv = .int .i64 (k : Int) ∧ nv = .int .i64 n0 ∧ (0 ≤ n0 ∧ n0 ≤ (k : Int)) ∧ Hid (yw d x y σR k = n0) ∧ Below w.heap.size w wr ∧ zw 45 wr b_d3 (kA.enc d)) (fun _ kv _ _ _ => (16 - intOf kv).toNat)
         case atStart => exact ⟨0, 0, by omega, rfl, rfl, by omega, zo rfl, B, d3⟩
         case round =>
          clear B d3; obtain ⟨k, n0, hk, rfl, rfl, hn0, HS, B, d3⟩ := hrel; by_cases hk1 : k < 16
          ·have q8 : decide ((k : Int) < 16) = true := zQ (by omega)
           have q9 : decide (k < 16) = true := zQ hk1; obtain ⟨m1, m2⟩ := Zu (x := (16 * x + 2 + 4 * ((k : Int) % 4) - d.x)) (m := 4000000) (by omega) (by omega); obtain ⟨m3, m4⟩ := Zu (x := (16 * y + 2 + 4 * ((k : Int) / 4) - d.y)) (m := 4000000) (by omega) (by omega); have hσ : σR k = (k % 4, k / 4) := rfl; have hhit : ZE d x y (k % 4) (k / 4) = decide ((16 * x + 2 + 4 * ((k : Int) % 4) - d.x) * (16 * x + 2 + 4 * ((k : Int) % 4) - d.x) + (16 * y + 2 + 4 * ((k : Int) / 4) - d.y) * (16 * y + 2 + 4 * ((k : Int) / 4) - d.y) ≤ d.r * d.r) := by unfold ZE dx4; rw [show 16 * x + (4 * ((k % 4 : Nat) : Int) + 2) - d.x = (16 * x + 2 + 4 * ((k : Int) % 4) - d.x) by omega, show 16 * y + (4 * ((k / 4 : Nat) : Int) + 2) - d.y = (16 * y + 2 + 4 * ((k : Int) / 4) - d.y) by omega]
           cases hh : ZE d x y (k % 4) (k / 4) with
           | true =>
            have q10 : decide ((16 * x + 2 + 4 * ((k : Int) % 4) - d.x) * (16 * x + 2 + 4 * ((k : Int) % 4) - d.x) + (16 * y + 2 + 4 * ((k : Int) / 4) - d.y) * (16 * y + 2 + 4 * ((k : Int) / 4) - d.y) ≤ d.r * d.r) = true := hhit.symm.trans hh; have HN := zo (Qj HS.out hσ hh); clear hhit hh hσ; go_upto_region 5 with fail
            refine zS 2 ?_; go_upto_region 7 with fail
            refine zS 11 ?_; go_upto_region 8 with fail
            refine zS 11 ?_; go_upto_region 9 with fail
            refine zS 13 ?_; go_upto_region 10 with fail
            refine zS 3 ?_; go_upto_region 6 with fail
            refine zS 3 ?_; go_wp2; go_roundw
            case rel => exact ⟨k + 1, _, by omega, by go_num, rfl, by omega, HN, B, d3⟩
            case measure => simp [intOf]; omega
           | false =>
            have q10 : decide ((16 * x + 2 + 4 * ((k : Int) % 4) - d.x) * (16 * x + 2 + 4 * ((k : Int) % 4) - d.x) + (16 * y + 2 + 4 * ((k : Int) / 4) - d.y) * (16 * y + 2 + 4 * ((k : Int) / 4) - d.y) ≤ d.r * d.r) = false := hhit.symm.trans hh; have HN := zo (Qj HS.out hσ hh); clear hhit hh hσ; go_upto_region 5 with fail
            refine zS 2 ?_; go_upto_region 7 with fail
            refine zS 11 ?_; go_upto_region 8 with fail
            refine zS 11 ?_; go_upto_region 9 with fail
            refine zS 13 ?_; go_upto_region 6 with fail
            refine zS 3 ?_; go_wp2; go_roundw
            case rel => exact ⟨k + 1, _, by omega, by go_num, rfl, by omega, HN, B, d3⟩
            case measure => simp [intOf]; omega
          ·have q8 : decide ((k : Int) < 16) = false := zB (by omega)
           have q9 : decide (k < 16) = false := zB hk1; have HN := zo (show zG (255 * n0) 16 = n from by rw [← E.out, ← zeX]; congr 2; rw [← HS.out, show k = 16 by omega]; rfl)
           clear d3; go_upto_region 5 with fail
           refine zS 2 ?_; go_upto_region 11 with fail
           refine qz 2 ?_; refine qe B (zE func23) (c := ws (255 * n0) 16 n _ (by omega) (by omega) (by omega) (by omega) HN.out) ?_; clear B; intro wn za zf zg B; refine z7 1 ?_; go_wp2; go_ret; exact ⟨rfl, B⟩
theorem zfO (B0 b : Nat) (l : List UInt8) (z : Int) (w : World) (h : yQ B0 b l w) (hz : 0 ≤ z ∧ z < 16777216) (hlen : l.length ≤ 100000) (hBw : B0 ≤ w.heap.size) : Calls Tryz.prog 82 #[.int .i64 z, .int .i64 1, .pointer (some ⟨b, 0, none⟩)] w fun e w' => (∃ v, e = .returned v) ∧ UB B0 b (l ++ jO z.toNat 1) w' ∧ Below B0 w w' := by
 obtain ⟨n, rfl⟩ : ∃ n : Nat, z = n := ⟨z.toNat, by omega⟩
 exact zfD B0 b l n w h (by omega) hlen hBw
theorem Wt (B0 b : Nat) (l : List UInt8) (z : Int) (w : World) (h : UB B0 b l w) (hz : 0 ≤ z ∧ z < 16777216) (hlen : l.length ≤ 100000) (hBw : B0 ≤ w.heap.size) : Calls Tryz.prog 82 #[.int .i64 z, .int .i64 1, .pointer (some ⟨b, 0, none⟩)] w fun e w' => (∃ v, e = .returned v) ∧ UB B0 b (l ++ jO z.toNat 1) w' ∧ Below B0 w w' ∧ KB b w w' := by
 obtain ⟨n, rfl⟩ : ∃ n : Nat, z = n := ⟨z.toNat, by omega⟩
 exact zha B0 b l n w h (by omega) hlen hBw
theorem zdD (B0 b : Nat) (l : List UInt8) (z : Int) (w : World) (h : UB B0 b l w) (hz : 0 ≤ z ∧ z < 16777216) (hlen : l.length ≤ 100000) (hBw : B0 ≤ w.heap.size) : Calls Tryz.prog 82 #[.int .i64 z, .int .i64 2, .pointer (some ⟨b, 0, none⟩)] w fun e w' => (∃ v, e = .returned v) ∧ UB B0 b (l ++ jO z.toNat 2) w' ∧ Below B0 w w' ∧ KB b w w' := by
 obtain ⟨n, rfl⟩ : ∃ n : Nat, z = n := ⟨z.toNat, by omega⟩
 exact zhb B0 b l n w h (by omega) hlen hBw
theorem YC (B0 b : Nat) (l : List UInt8) (z : Int) (w : World) (h : UB B0 b l w) (hz : 0 ≤ z ∧ z < 16777216) (hlen : l.length ≤ 100000) (hBw : B0 ≤ w.heap.size) : Calls Tryz.prog 82 #[.int .i64 z, .int .i64 3, .pointer (some ⟨b, 0, none⟩)] w fun e w' => (∃ v, e = .returned v) ∧ UB B0 b (l ++ jO z.toNat 3) w' ∧ Below B0 w w' ∧ KB b w w' := by
 obtain ⟨n, rfl⟩ : ∃ n : Nat, z = n := ⟨z.toNat, by omega⟩
 exact zhc B0 b l n w h (by omega) hlen hBw
theorem zch (l : List Sp) {k : Nat} {p : Sp} (h : l[k]? = some p) : x3 (l.take (k + 1)) = x3 (l.take k) ++ ptB p := by
 rw [List.take_add_one, h]
 exact zcg _ _
theorem Jp (v : Value) (s : jb) (L : List UInt8) (w : World) (rs : xh jf v s.pts w) (hn : s.pts.length ≤ 17592186044416) (hcol : s.col.ok) (e : yX s = L) : Calls Tryz.prog 33 #[.agg (jg v s)] w fun e w' => e = .returned (.string (y5 L)) ∧ Below w.heap.size w w' := by
 have B := Below.refl w.heap.size w
 obtain ⟨a, c, rfl, hc⟩ := rs.len
 cases hv : jT s with
 | false =>
  have hL : L = [] := by rw [← e]; unfold yX; rw [hv]; rfl
  subst hL; have HV := zo hv; clear hv e; go_enter func33, ntmps33
  go_upto_region 0 with fail
  refine wp_region_lit ?_
  (refine jd (t := 30) B ?_; clear B; intro b_r1 wn zb zd r1 za zf zk B; replace rs := rs.be za)
  refine z7 1 ?_; go_upto_region 1 with fail
  refine qz 1 ?_
  refine qe B (zE func16) (c := yi _ s false _ rs hn HV.out) ?_; clear B; intro wn za zf zg B
  replace r1 := r1.be za
  replace rs := rs.be za; refine z7 1 ?_; go_upto_region 2 with fail
  refine zS 1 ?_; go_wp2; go_ret; exact ⟨rfl, B⟩
 | true =>
  have hL : jw s = L := by rw [← e]; unfold yX; rw [hv]; rfl
  have HL := zo hL; have HVS := zo ((xq s).1 hv); have HV := zo hv; have hl1 := HVS.out.l1; have hl2 := HVS.out.l2; have v1 := HVS.out.r1; have v2 := HVS.out.r2; have v3 := HVS.out.s1; have v4 := HVS.out.s2; have v5 := HVS.out.p1; have v6 := HVS.out.p2; obtain ⟨g, o, rfl, pc⟩ := rs.at (by omega); have hg0 := pc.lt; have HCOL := zo hcol; clear hv e hL hcol; go_enter func33, ntmps33
  go_upto_region 0 with fail
  refine wp_region_lit ?_
  (refine jd (t := 30) B ?_; clear B; intro b_r1 wn zb zd r1 za zf zk B; replace pc := pc.be za; replace rs := rs.be za)
  refine z7 1 ?_; have k1 : w.heap.size ≤ b_r1 := by omega
  go_upto_region 1 with fail
  refine qz 1 ?_
  refine qe B (zE func16) (c := yi _ s true _ rs hn HV.out) ?_; clear B; intro wn za zf zg B
  replace r1 := r1.be za
  replace pc := pc.be za
  replace rs := rs.be za; refine z7 1 ?_; clear rs; have hr1 := r1.lt; go_upto_region 3 with fail
  refine wp_region_lit ?_
  (refine XH rfl rfl (kn B ?_); clear B; intro b_bd wn zb zd bd za zf zk B; replace r1 := r1.be (za.mono zb); replace pc := pc.be (za.mono zb); simp only [zn])
  refine wpList_nil ?_; have k2 : b_r1 < b_bd := by omega
  have k3 : g < b_bd := by omega
  have hbl := bd.lt; go_upto_region 4 with fail
  refine wp_region_lit ?_
  (refine qH rfl (.func (.func 82) #[] #[.pointer (some ⟨b_bd, 0, none⟩)]) (by first | rfl | simp [go_sem, Act.eval]) ?_; simp only [zn])
  refine z7 1 ?_; go_upto_region 5 with fail
  refine qz 3 ?_
  refine j1 underlying26 ?_; refine je (by first | rfl | simp [Region.wanted, yielded]) rfl (by simp only [Act.eval, yj]; rfl) (zE func82) (by simp only [Act.eval, yj]; rfl) ?_
  refine (zfO b_bd b_bd ([]) ((s.pts.length : Int)) _ bd (by omega) (by simp) (by omega)).mono ?_; rintro e wn ⟨⟨_, rfl⟩, hu, za⟩; have zf := B.size; have zg := za.size; replace B := B.trans (za.mono (by omega)); replace r1 := r1.of_eq (za.block _ (by omega)); replace pc := pc.of_eq (za.block _ (by omega)); clear bd; have bd := hu; clear hu; refine ⟨_, rfl, ?_⟩; simp only [zn]; refine wpList_nil ?_; rw [List.nil_append, Int.toNat_natCast] at bd; go_upto_region 6 with fail
  refine qz 2 ?_
  refine j1 underlying26 ?_; refine z7 1 ?_; clear hbl; go_wp2; go_loopw [6, 20] (fun _ iv wr => ∃ k : Nat, k ≤ s.pts.length ∧ iv = .int .i64 (k : Int) ∧ Below w.heap.size w wr ∧ zw 30 wr b_r1 (jg (.slice (some ⟨g, o, none⟩) s.pts.length c) s) ∧ zH jf g o s.pts wr ∧ UB b_bd b_bd ((jO s.pts.length 1) ++ x3 (s.pts.take k)) wr) (fun _ iv _ => (s.pts.length - intOf iv).toNat)
  case atStart => exact ⟨0, by omega, rfl, B, r1, pc, by rw [List.take_zero]; exact bd⟩
  case round =>
   clear B r1 pc bd; obtain ⟨k, hk, rfl, B, r1, pc, bd⟩ := hrel; have hbl := bd.lt; by_cases hkl : k < s.pts.length
   ·have q1 : decide ((k : Int) < (s.pts.length : Int)) = true := zQ (by omega)
    have q2 : decide (k < s.pts.length) = true := zQ hkl; have hp := qG hkl; have OKP := HVS.out.pt hkl; have hst := zch s.pts hp
    generalize hx1 : jc s.pts k = x1 at *
    clear hx1; have HST := zo hst; clear hst; obtain ⟨o1, o2, o3, o4, o5, o6⟩ := OKP; obtain ⟨l0, hl0⟩ : ∃ l, (jO s.pts.length 1) ++ x3 (s.pts.take k) = l := ⟨_, rfl⟩; have hl0n : l0.length ≤ 449 := by rw [← hl0, List.length_append, zD, vz, List.length_take]; omega
    rw [hl0] at bd; have HL0 := zo hl0; clear hl0; go_upto_region 7 with fail
    refine zS 1 ?_; have BW := B; have hws := B.size; have HBD := zo bd; obtain ⟨wR, hwR⟩ : ∃ z, z = wr := ⟨_, rfl⟩; subst hwR; have B := Below.refl wR.heap.size wR; have hr1l := r1.lt; have hgl := pc.lt; go_upto_region 8 with fail
    refine wp_region_lit ?_; refine jD 2 ?_; repeat (first | go_big_quiet_skip | (go_big_quiet_want; first | ((first | refine zq (fun w hw => (qD pc w hw).load isAgg43 hp) ?_ | refine qB ?_ | refine qC ?_); simp only [zn]; go_big_quiet_on) | (go_big_quiet_op; go_big_quiet_on)))
    refine wpQuiet_nil ?_
    (refine jH (t := 43) (xn _ _ rfl) B ?_; clear B; intro b_t6 wn zb zd t6 za zf zk B; replace r1 := r1.be za; replace pc := pc.be za)
    (refine qZ (hone := (by simp [jf, Value.oneCell'])) t6 B ?_; clear t6 B; intro wn t6 ze zf zg B; replace r1 := r1.cg ze; replace pc := pc.cg ze)
    refine wpList_nil ?_; replace t6 : zw 43 _ b_t6 (jf.enc x1) := t6; clear bd; have bd := HBD.out.be B; have k5 : b_bd < b_t6 := by omega
    have B0 := BW.trans (B.mono hws); clear B; have B := B0; clear B0 BW; go_upto_region 9 with fail
    refine qz 4 ?_
    refine je (by first | rfl | simp [Region.wanted, yielded]) rfl (by simp only [Act.eval, yj]; rfl) (zE func82) (by simp only [Act.eval, yj]; rfl) ?_
    refine (YC b_bd b_bd (l0) (x1.x + 1048576) _ bd (by omega) (by omega) (by omega)).mono ?_; rintro e wn ⟨⟨_, rfl⟩, hu, za, hkm⟩; have zf := B.size; have zg := za.size; replace B := B.trans (za.mono (by omega)); replace r1 := r1.of_eq (za.block _ (by omega)); replace pc := pc.of_eq (za.block _ (by omega)); replace t6 := hkm _ _ _ t6 (by omega) (by decide); clear bd; have bd := hu; clear hu; refine ⟨_, rfl, ?_⟩; simp only [zn]; refine wpList_nil ?_; go_upto_region 10 with fail
    refine qz 4 ?_
    refine je (by first | rfl | simp [Region.wanted, yielded]) rfl (by simp only [Act.eval, yj]; rfl) (zE func82) (by simp only [Act.eval, yj]; rfl) ?_
    refine (YC b_bd b_bd (l0 ++ jO (x1.x + 1048576).toNat 3) (x1.y + 1048576) _ bd (by omega) (by simp only [List.length_append, zD]; omega) (by omega)).mono ?_
    rintro e wn ⟨⟨_, rfl⟩, hu, za, hkm⟩; have zf := B.size; have zg := za.size; replace B := B.trans (za.mono (by omega)); replace r1 := r1.of_eq (za.block _ (by omega)); replace pc := pc.of_eq (za.block _ (by omega)); replace t6 := hkm _ _ _ t6 (by omega) (by decide); clear bd; have bd := hu; clear hu; refine ⟨_, rfl, ?_⟩; simp only [zn]; refine wpList_nil ?_; go_upto_region 11 with fail
    refine qz 3 ?_
    refine je (by first | rfl | simp [Region.wanted, yielded]) rfl (by simp only [Act.eval, yj]; rfl) (zE func82) (by simp only [Act.eval, yj]; rfl) ?_
    refine (Wt b_bd b_bd (l0 ++ jO (x1.x + 1048576).toNat 3 ++ jO (x1.y + 1048576).toNat 3) (x1.p) _ bd (by omega) (by simp only [List.length_append, zD]; omega) (by omega)).mono ?_
    rintro e wn ⟨⟨_, rfl⟩, hu, za, hkm⟩; have zf := B.size; have zg := za.size; replace B := B.trans (za.mono (by omega)); replace r1 := r1.of_eq (za.block _ (by omega)); replace pc := pc.of_eq (za.block _ (by omega)); replace t6 := hkm _ _ _ t6 (by omega) (by decide); clear bd; have bd := hu; clear hu; refine ⟨_, rfl, ?_⟩; simp only [zn]; refine wpList_nil ?_; have hfin : l0 ++ jO (x1.x + 1048576).toNat 3 ++ jO (x1.y + 1048576).toNat 3 ++ jO x1.p.toNat 1 = (jO s.pts.length 1) ++ x3 (s.pts.take (k + 1)) := by
     rw [HST.out, ← HL0.out]; unfold ptB; simp only [List.append_assoc]
    rw [hfin] at bd; clear hfin; go_upto_region 12 with fail
    refine zS 2 ?_; go_wp2; go_roundw
    case rel => exact ⟨k + 1, by omega, by go_num, B, r1, pc, bd⟩
    case measure => simp [intOf]; omega
   ·have q1 : decide ((k : Int) < (s.pts.length : Int)) = false := zB (by omega)
    have q2 : decide (k < s.pts.length) = false := zB hkl; obtain ⟨c1, c2, c3, c4⟩ := HCOL.out; obtain ⟨l0, hl0⟩ : ∃ l, (jO s.pts.length 1) ++ x3 (s.pts.take k) = l := ⟨_, rfl⟩; have hl0n : l0.length ≤ 449 := by rw [← hl0, List.length_append, zD, vz, List.length_take]; omega
    have hl0f : l0 = (jO s.pts.length 1) ++ x3 s.pts := by rw [← hl0, List.take_of_length_le (by omega)]
    rw [hl0] at bd; have HL0 := zo hl0f; clear hl0 hl0f; go_upto_region 7 with fail
    refine zS 1 ?_; go_upto_region 13 with fail
    refine qz 3 ?_
    refine je (by first | rfl | simp [Region.wanted, yielded]) rfl (by simp only [Act.eval, yj]; rfl) (zE func82) (by simp only [Act.eval, yj]; rfl) ?_
    refine (zdD b_bd b_bd (l0) (s.rad) _ bd (by omega) (by omega) (by omega)).mono ?_; rintro e wn ⟨⟨_, rfl⟩, hu, za, hkm⟩; have zf := B.size; have zg := za.size; replace B := B.trans (za.mono (by omega)); replace r1 := r1.of_eq (za.block _ (by omega)); replace pc := pc.of_eq (za.block _ (by omega)); clear bd; have bd := hu; clear hu; refine ⟨_, rfl, ?_⟩; simp only [zn]; refine wpList_nil ?_; go_upto_region 14 with fail
    refine qz 3 ?_
    refine je (by first | rfl | simp [Region.wanted, yielded]) rfl (by simp only [Act.eval, yj]; rfl) (zE func82) (by simp only [Act.eval, yj]; rfl) ?_
    refine (zdD b_bd b_bd (l0 ++ jO s.rad.toNat 2) (s.spa) _ bd (by omega) (by simp only [List.length_append, zD]; omega) (by omega)).mono ?_
    rintro e wn ⟨⟨_, rfl⟩, hu, za, hkm⟩; have zf := B.size; have zg := za.size; replace B := B.trans (za.mono (by omega)); replace r1 := r1.of_eq (za.block _ (by omega)); replace pc := pc.of_eq (za.block _ (by omega)); clear bd; have bd := hu; clear hu; refine ⟨_, rfl, ?_⟩; simp only [zn]; refine wpList_nil ?_; go_upto_region 15 with fail
    refine qz 12 ?_
    (refine V7 rfl _ _ _ _ rfl s.col.r s.col.g s.col.b s.col.a c1 c2 c3 c4 rfl rfl rfl rfl (kn B ?_); clear B; intro b_b4 wn zb zd b4 za zf zk B; replace r1 := r1.be (za.mono zb); replace pc := pc.be (za.mono zb); replace bd := bd.be (za.mono zb); simp only [zn])
    (refine kh (s := 75) (d := 9) rfl _ rfl rfl (ka b4 (uG s.col) (0) _ (by simp [uG]) (fun i hi => by (have hi : i < 4 := hi); unfold uG; rw [Nat.zero_add, List.getD_eq_getElem?_getD, List.getElem?_eq_getElem hi]; rfl)) ?_; simp only [zn])
    refine xz (zE func83) (c := zfv b_bd b_bd (l0 ++ jO s.rad.toNat 2 ++ jO s.spa.toNat 2) (y5 (uG s.col)) _ bd (by rw [jZ]; simp only [List.length_append, zD, uG, List.length_cons, List.length_nil]; omega) (by have := bd.lt; omega)) (h := ?_)
    rintro e wn ⟨⟨_, rfl⟩, hu, za, hkm⟩; have zf := B.size; have zg := za.size; replace B := B.trans (za.mono (by omega)); replace r1 := r1.of_eq (za.block _ (by omega)); replace pc := pc.of_eq (za.block _ (by omega)); clear bd; have bd := hu; clear hu; refine ⟨_, rfl, ?_⟩; simp only [zn]; refine wpList_nil ?_; rw [Qt] at bd; obtain ⟨l1, hl1'⟩ : ∃ l, l0 ++ jO s.rad.toNat 2 ++ jO s.spa.toNat 2 ++ uG s.col = l := ⟨_, rfl⟩; have hl1n : l1.length ≤ 457 := by rw [← hl1']; simp only [List.length_append, zD, uG, List.length_cons, List.length_nil]; omega
    rw [hl1'] at bd; have HL1 := zo hl1'; clear hl1' b4; go_upto_region 16 with fail
    refine zS 1 ?_; go_upto_region 17 with fail
    refine zS 2 ?_; cases hera : s.era with
    | true =>
     have hen : jO (Int.toNat 1) 1 = jO (uv s) 1 := by unfold uv; rw [hera]; rfl
     have HEN := zo hen; clear hera hen; go_upto_region 18 with fail
     refine zS 1 ?_; go_upto_region 19 with fail
     refine qz 2 ?_; refine je (by first | rfl | simp [Region.wanted, yielded]) rfl (by simp only [Act.eval, yj]; rfl) (zE func82) (by simp only [Act.eval, yj]; rfl) ?_
     refine (Wt b_bd b_bd (l1) (1) _ bd (by omega) (by omega) (by omega)).mono ?_; rintro e wn ⟨⟨_, rfl⟩, hu, za, hkm⟩; have zf := B.size; have zg := za.size; replace B := B.trans (za.mono (by omega)); replace r1 := r1.of_eq (za.block _ (by omega)); replace pc := pc.of_eq (za.block _ (by omega)); clear bd; have bd := hu; clear hu; refine ⟨_, rfl, ?_⟩; simp only [zn]; refine wpList_nil ?_; rw [HEN.out] at bd; go_upto_region 20 with fail
     refine qz 3 ?_
     refine je (by first | rfl | simp [Region.wanted, yielded]) rfl (by simp only [Act.eval, yj]; rfl) (zE func82) (by simp only [Act.eval, yj]; rfl) ?_
     refine (YC b_bd b_bd (l1 ++ jO (uv s) 1) (s.pha) _ bd (by omega) (by simp only [List.length_append, zD]; omega) (by omega)).mono ?_
     rintro e wn ⟨⟨_, rfl⟩, hu, za, hkm⟩; have zf := B.size; have zg := za.size; replace B := B.trans (za.mono (by omega)); replace r1 := r1.of_eq (za.block _ (by omega)); replace pc := pc.of_eq (za.block _ (by omega)); clear bd; have bd := hu; clear hu; refine ⟨_, rfl, ?_⟩; simp only [zn]; refine wpList_nil ?_; have hfin : l1 ++ jO (uv s) 1 ++ jO s.pha.toNat 3 = L := by
      rw [← HL.out, ← HL1.out, HL0.out]; unfold jw ZO; simp only [List.append_assoc]
     rw [hfin] at bd; clear hfin; have hbz := bd.lt; go_upto_region 21 with fail
     refine wp_region_lit ?_; refine xz (zE func85) (c := Kr b_bd b_bd L _ bd.holds (by omega)) (h := ?_); rintro e wn ⟨rfl, za⟩; have zf := B.size; replace B := B.trans (za.mono (by omega)); clear bd; refine ⟨_, rfl, ?_⟩; simp only [zn]; refine z7 1 ?_; go_wp2; go_ret; exact ⟨rfl, B⟩
    | false =>
     have hen : jO (Int.toNat 0) 1 = jO (uv s) 1 := by unfold uv; rw [hera]; rfl
     have HEN := zo hen; clear hera hen; go_upto_region 19 with fail
     refine qz 2 ?_; refine je (by first | rfl | simp [Region.wanted, yielded]) rfl (by simp only [Act.eval, yj]; rfl) (zE func82) (by simp only [Act.eval, yj]; rfl) ?_
     refine (Wt b_bd b_bd (l1) (0) _ bd (by omega) (by omega) (by omega)).mono ?_; rintro e wn ⟨⟨_, rfl⟩, hu, za, hkm⟩; have zf := B.size; have zg := za.size; replace B := B.trans (za.mono (by omega)); replace r1 := r1.of_eq (za.block _ (by omega)); replace pc := pc.of_eq (za.block _ (by omega)); clear bd; have bd := hu; clear hu; refine ⟨_, rfl, ?_⟩; simp only [zn]; refine wpList_nil ?_; rw [HEN.out] at bd; go_upto_region 20 with fail
     refine qz 3 ?_
     refine je (by first | rfl | simp [Region.wanted, yielded]) rfl (by simp only [Act.eval, yj]; rfl) (zE func82) (by simp only [Act.eval, yj]; rfl) ?_
     refine (YC b_bd b_bd (l1 ++ jO (uv s) 1) (s.pha) _ bd (by omega) (by simp only [List.length_append, zD]; omega) (by omega)).mono ?_
     rintro e wn ⟨⟨_, rfl⟩, hu, za, hkm⟩; have zf := B.size; have zg := za.size; replace B := B.trans (za.mono (by omega)); replace r1 := r1.of_eq (za.block _ (by omega)); replace pc := pc.of_eq (za.block _ (by omega)); clear bd; have bd := hu; clear hu; refine ⟨_, rfl, ?_⟩; simp only [zn]; refine wpList_nil ?_; have hfin : l1 ++ jO (uv s) 1 ++ jO s.pha.toNat 3 = L := by
      rw [← HL.out, ← HL1.out, HL0.out]; unfold jw ZO; simp only [List.append_assoc]
     rw [hfin] at bd; clear hfin; have hbz := bd.lt; go_upto_region 21 with fail
     refine wp_region_lit ?_; refine xz (zE func85) (c := Kr b_bd b_bd L _ bd.holds (by omega)) (h := ?_); rintro e wn ⟨rfl, za⟩; have zf := B.size; replace B := B.trans (za.mono (by omega)); clear bd; refine ⟨_, rfl, ?_⟩; simp only [zn]; refine z7 1 ?_; go_wp2; go_ret; exact ⟨rfl, B⟩
section
variable {o : Oper} {a : Act} {C : World → Prop} {K : Act → Prop}
end
def Jo (w : World) (b : Nat) (l : List UInt8) : Prop := b < w.heap.size ∧ ∀ j, j < l.length → w.cell? ⟨b, j, none⟩ = some (Y (l.getD j 0)) ∧ w.frozen? ⟨b, j, none⟩ = false
section
variable {w : World} {b : Nat} {l : List UInt8}
theorem Jo.lt (h : Jo w b l) : b < w.heap.size := h.1
theorem Jo.of_eq {w' : World} (h : Jo w b l) (e : w'.heap[b]? = w.heap[b]?) : Jo w' b l := by
 refine ⟨?_, fun j hj => ?_⟩
 ·have := h.1
  rcases Nat.lt_or_ge b w'.heap.size with k | k
  ·exact k
  ·rw [Array.getElem?_eq_none k, Array.getElem?_eq_getElem this] at e
   cases e
 ·obtain ⟨h1, h2⟩ := h.2 j hj
  refine ⟨(World.cell?_of_block (w := w) e).trans h1, ?_⟩; rw [← h2]; unfold World.frozen?; simp only [e]
theorem Jo.be {w' : World} (h : Jo w b l) (hb : Below w.heap.size w w') : Jo w' b l := h.of_eq (hb.block b h.lt)
theorem Jo.cg {w w' : World} {b : Nat} {l : List UInt8} (h : Jo w b l) {zc : Nat} (e : qY zc w w') (hn : b ≠ zc := by omega) : Jo w' b l := h.of_eq (e.block _ h.lt hn)
theorem Jo.set (h : Jo w b l) {p : Nat} (hp : p < l.length) (c : UInt8) : Jo (w.setCell ⟨b, p, none⟩ (Y c)) b (l.set p c) := by
 refine ⟨by rw [World.size_setCell]; exact h.1, fun j hj => ?_⟩
 rw [List.length_set] at hj
 obtain ⟨h1, h2⟩ := h.2 j hj
 refine ⟨?_, by rw [World.frozen?_setCell]; exact h2⟩
 rw [List.getD_eq_getElem?_getD, List.getElem?_set]
 by_cases e : p = j
 ·subst e
  rw [if_pos rfl, if_pos hp]; exact World.cell?_setCell_same' _ _ _ (by rw [h1]; rfl)
 ·rw [if_neg e, World.cell?_setCell_other _ _ _ _ (by intro e2; injection e2 with _ e3; exact e e3), h1, List.getD_eq_getElem?_getD]
end
theorem zdW (w : World) (l : List UInt8) : ∃ cap w', (convert 9 75 (.string (y5 l))).run Tryz.prog w = .ok (.slice (some ⟨w.heap.size, 0, none⟩) l.length cap) w' ∧ Jo w' w.heap.size l ∧ Below w.heap.size w w' ∧ w'.heap.size = w.heap.size + 1 := by
 have hr := run_bytes_of_string (P := Tryz.prog) w 9 75 5 (y5 l) underlying9 underlying75 underlying5
 rw [jZ] at hr
 refine ⟨_, _, hr, ⟨by rw [World.size_alloc]; show w.heap.size < w.heap.size + 1; omega, fun j hj => ?_⟩, ((Below.refl _ _).drew).alloc (Nat.le_refl _) _, by rw [World.size_alloc]; rfl⟩
 generalize hN : grownCap w l.length 0 5 = cap
 have hb : (w.drew.alloc (.cells (bytesRow (y5 l) cap) 5 ((bytesRow (y5 l) cap).size, (bytesRow (y5 l) cap).size + 1))).heap[w.heap.size]? = some (.cells (bytesRow (y5 l) cap) 5 ((bytesRow (y5 l) cap).size, (bytesRow (y5 l) cap).size + 1)) := by
  rw [zJ]; exact if_pos rfl
 have zf : l.length ≤ (bytesRow (y5 l) cap).size := by
  unfold bytesRow; rw [Array.size_append, Array.size_map]; have : (y5 l).data.size = l.length := jZ l; omega
 constructor
 ·rw [cell_of_row _ _ _ _ _ _ hb]
  unfold bytesRow; rw [Array.getElem?_append_left (by rw [Array.size_map]; have : (y5 l).data.size = l.length := jZ l; omega), Array.getElem?_map]
  have e : (y5 l).data[j]? = some (l.getD j 0) := by
   show (l.toArray)[j]? = _
   rw [List.getElem?_toArray, List.getD_eq_getElem?_getD, List.getElem?_eq_getElem hj]
   rfl
  rw [e]
  rfl
 ·unfold World.frozen?
  simp only [hb]; simp
  omega
section
variable {ops : Array Oper} {rest : List Oper} {o : Oper} {a : Act} {w : World} {Q : Exit → Act → World → Prop}
theorem wa (hg : o.guard = none) (x : Operand) (ho : o.op = .convert 9 75 x) (l : List UInt8) (hx : a.eval x = .string (y5 l))
  (h : ∀ b cap w', w.heap.size ≤ b → b ≤ w.heap.size → Jo w' b l → Below b w w' → w'.heap.size = b + 1 → wpList Tryz.prog ops Q rest (a.put o.dst (.slice (some ⟨b, 0, none⟩) l.length cap)) w') : wpList Tryz.prog ops Q (o :: rest) a w :=
 wpList_plain hg fun K hK => by
  obtain ⟨cap, w', hr, h1, h2, h3⟩ := zdW w l; unfold Oper.wp execOp; simp only [ho, hx, hr, Sem.run_bind, Sem.run_pure, Result.andThen_ok]; exact hK _ _ (h _ cap _ (Nat.le_refl _) (Nat.le_refl _) h1 h2 h3)
theorem uV {t : TypeId} (hg : o.guard = none) (x y : Operand) (ho : o.op = .store 4 x y) (b i : Nat) (hx : a.eval x = .pointer (some ⟨b, i, none⟩)) (z : Bool) (hy : a.eval y = .bool z) {cs : Array Value} (ht : zw t w b cs) {c : Value} (hc : cs[i]? = some c)
  (h : ∀ w', zw t w' b (cs.setIfInBounds i (.bool z)) → qY b w w' → w'.heap.size = w.heap.size → wpList Tryz.prog ops Q rest (a.put o.dst undef) w') : wpList Tryz.prog ops Q (o :: rest) a w := by
 have c0 := ht.cell i hc
 have f0 := ht.frozen i
 refine qj hg x y ho (w.setCell ⟨b, i, none⟩ (.bool z)) ?_ (h _ ?_ ((qY.refl b w).setCell _) (by simp only [World.size_setCell]))
 ·rw [hx, hy]
  simp [go_sem, c0, f0]
 ·exact heap_setCell_same w b i cs _ _ ht
end
theorem zgo (l : List UInt8) (a b : Nat) : (y5 l).extract a b = y5 (xW l a (b - a)) := by
 apply ByteArray.ext
 rw [ByteArray.data_extract]
 simp [y5, xW, List.extract]
theorem VR (l : List UInt8) (i j : Nat) (hij : i ≤ j) (hj : j ≤ l.length) (w : World) : (Instr.sliceAt 9 (.string (y5 l)) (some (.int .i64 (i : Int))) (some (.int .i64 (j : Int))) none).run Tryz.prog w = .ok (.string (y5 (xW l i (j - i)))) w := by
 have hs := jZ l
 rw [← zgo]
 simp [go_sem, Instr.sliceAt, Instr.slice, Instr.sliceBounds, Instr.sliceBound, hs, hij, hj]
theorem XD {o : Oper} {a : Act} {C : World → Prop} {K : Act → Prop} {x p q : Operand} (h : o.op = .slice 9 x (some p) (some q) none) (l : List UInt8) (hx : a.eval x = .string (y5 l)) (zi zj : Int) (hp : a.eval p = .int .i64 zi) (hq : a.eval q = .int .i64 zj) (i j : Nat) (hi : zi = i) (hj : zj = j) (hij : i ≤ j) (hjl : j ≤ l.length) (m : Nat) (hm : m = j - i) (hk : K (a.put o.dst (.string (y5 (xW l i m))))) : o.quiet Tryz.prog a C K := by
 subst hi hj hm
 exact ⟨_, fun w hw => by unfold Oper.quietAt execOp; simp only [h, hx, hp, hq, Option.map_some, Option.map_none, VR l i j hij hjl w, Sem.run_bind, Sem.run_pure, Result.andThen_ok]; exact ⟨rfl, rfl⟩, hk⟩
theorem WZ {o : Oper} {a : Act} {C : World → Prop} {K : Act → Prop} {x : Operand} {t : TypeId} (h : o.op = .call { callee := .builtin .len, args := #[x], argTypes := #[t] }) (ht : Tryz.prog.underlying t = some .string) (l : List UInt8) (hx : a.eval x = .string (y5 l)) (hk : K (a.put o.dst (.int .i64 (l.length : Int)))) : o.quiet Tryz.prog a C K := by
 obtain ⟨dst, op, ty, pos, after, guard⟩ := o
 simp only at h
 subst h
 refine ⟨_, fun w hw => ?_, hk⟩
 have hu := run_underlying ht w
 have hs := jZ l
 have hl : (Builtin.len_ #[t] ty #[.string (y5 l)]).run Tryz.prog w = .ok (goInt l.length) w := by simp [Builtin.len_, hu, hs]
 have key : ∀ ρ : Operand → Value, ρ x = .string (y5 l) → (execOp ρ { dst, op := .call { callee := .builtin .len, args := #[x], argTypes := #[t] }, type := ty, pos, after, guard : Oper }).run Tryz.prog w = .ok (.value (.int .i64 (l.length : Int))) w := fun ρ hρ => by simp [go_sem, hρ, hl]
 unfold Oper.quietAt
 rw [key a.eval hx]
 exact ⟨rfl, rfl⟩
def XL (l : List UInt8) (i : Nat) (f : Bool) : Array Value := #[.string (y5 l), .int .i64 (i : Int), .bool f]
def vQ (l : List UInt8) (st : Nat × Bool) (m : Nat) : List UInt8 × (Nat × Bool) := if st.2 = false ∧ st.1 + m ≤ l.length then (xW l st.1 m, (st.1 + m, false)) else ([], (st.1, true))
theorem vA {l : List UInt8} {i m : Nat} (h : i + m ≤ l.length) : vQ l (i, false) m = (xW l i m, (i + m, false)) := if_pos ⟨rfl, h⟩
theorem ua {l : List UInt8} {st : Nat × Bool} {m : Nat} (h : (vQ l st m).2.2 = false) : st.2 = false ∧ (vQ l st m).2.1 = st.1 + m ∧ st.1 + m ≤ l.length := by
 unfold vQ at h ⊢
 split
 ·rename_i k
  exact ⟨k.1, rfl, k.2⟩
 ·rename_i k
  rw [if_neg k] at h; cases h
theorem vY {l : List UInt8} {st : Nat × Bool} {m : Nat} (h : st.1 ≤ l.length) : (vQ l st m).2.1 ≤ l.length := by
 unfold vQ
 split
 ·rename_i k; exact k.2
 ·exact h
theorem Jj {l : List UInt8} {st : Nat × Bool} {m : Nat} : (vQ l st m).1.length ≤ m := by
 unfold vQ
 split
 ·unfold xW; rw [List.length_take]; omega
 ·exact Nat.zero_le _
theorem Zs {w : World} {b j : Nat} {v : Value} (h : w.cell? ⟨b, j, none⟩ = some v) : (Instr.loadAt 9 (.pointer (some ⟨b, j, none⟩))).run Tryz.prog w = .ok v w := by
 simp [go_sem, h]
theorem ziX {w : World} {b : Nat} {l : List UInt8} {i : Nat} {fl : Bool} (h : zw 180 w b (XL l i fl)) : w.cell? ⟨b, 0, none⟩ = some (.string (y5 l)) := h.cell 0 rfl
theorem ziW {w : World} {b : Nat} {l : List UInt8} {i : Nat} {fl : Bool} (h : zw 180 w b (XL l i fl)) : w.cell? ⟨b, 1, none⟩ = some (.int .i64 (i : Int)) := h.cell 1 rfl
theorem zfr (l : List UInt8) (w : World) : Calls Tryz.prog 86 #[.string (y5 l)] w fun e w' => ∃ b, (w.heap.size ≤ b ∧ b ≤ w.heap.size) ∧ e = .returned (.pointer (some ⟨b, 0, none⟩)) ∧ zw 180 w' b (XL l 0 false) ∧ Below w.heap.size w w' := by
 have B := Below.refl w.heap.size w
 go_enter func86, ntmps86
 go_upto_region 0 with fail
 refine zS 1 ?_
 go_upto_region 1 with fail
 refine qz 2 ?_
 (refine jd (t := 180) B ?_; clear B; intro b_rd wn zb zd rd za zf zk B)
 refine z7 1 ?_
 have k1 : w.heap.size ≤ b_rd ∧ b_rd ≤ w.heap.size := by omega
 go_wp2
 go_ret
 exact ⟨_, k1, rfl, rd, B⟩
theorem zaj (l : List UInt8) (i : Nat) (fl : Bool) (b : Nat) (n : Int) (w : World) (rd : zw 180 w b (XL l i fl)) (hl : l.length ≤ 100000000) (hi : i ≤ l.length) (e : (l.length : Int) - i = n) : Calls Tryz.prog 139 #[.pointer (some ⟨b, 0, none⟩)] w fun e w' => e = .returned (.int .i64 n) ∧ Below w.heap.size w w' := by
 have B := Below.refl w.heap.size w
 have hs := jZ l
 subst e
 go_enter func139, ntmps139
 go_upto_region 3 with fail
 refine zt (by kernel_rfl) (by kernel_rfl) ?_
 repeat (first | go_big_quiet_skip | (go_big_quiet_want; first | (refine zq (fun w hw => Zs (ziX (zY rd w hw))) ?_; simp only [zn]; go_big_quiet_on) | (refine zq (fun w hw => qt (ziW (zY rd w hw))) ?_; simp only [zn]; go_big_quiet_on) | (refine WZ rfl underlying9 l rfl ?_; simp only [zn]; go_big_quiet_on) | (go_big_quiet_op; first | go_big_quiet_on | go_big_quiet_call ((fail)))))
 refine wpQuiet_nil ?_
 intro wn za
 obtain ⟨zf, zg, B⟩ := zM B za
 go_wp2
 go_ret
 exact ⟨rfl, B⟩
theorem zbs (l : List UInt8) (i : Nat) (fl : Bool) (b : Nat) (w : World) (rd : zw 180 w b (XL l i fl)) : Calls Tryz.prog 89 #[.pointer (some ⟨b, 0, none⟩)] w fun e w' => e = .returned (.bool fl) ∧ Below w.heap.size w w' := by
 have B := Below.refl w.heap.size w
 have c2 : w.cell? ⟨b, 2, none⟩ = some (.bool fl) := rd.cell 2 rfl
 go_enter func89, ntmps89
 go_wp2
 go_ret
 exact ⟨rfl, B⟩
theorem zfs (l : List UInt8) (i : Nat) (fl : Bool) (b m : Nat) (w : World) (rd : zw 180 w b (XL l i fl)) (hl : l.length ≤ 100000000) (hi : i ≤ l.length) (hm : m ≤ 1000) : Calls Tryz.prog 88 #[.pointer (some ⟨b, 0, none⟩), .int .i64 (m : Int)] w fun e w' => e = .returned (.string (y5 (vQ l (i, fl) m).1)) ∧ zw 180 w' b (XL l (vQ l (i, fl) m).2.1 (vQ l (i, fl) m).2.2) ∧ qY b w w' := by
 have B := vH.refl b w
 have q0 : decide ((m : Int) < 0) = false := zB (by omega)
 have c2 : w.cell? ⟨b, 2, none⟩ = some (.bool fl) := rd.cell 2 rfl
 cases fl with
 | true =>
  have hT : vQ l (i, true) m = ([], (i, true)) := if_neg (fun h => by cases h.1); rw [hT]; clear hT; go_enter func88, ntmps88
  go_upto_region 3 with fail
  refine wp_region_lit ?_; go_wp2_with (first | (refine uV (t := 180) rfl _ _ rfl _ 2 rfl true rfl rd rfl ?_; clear rd; intro wn ht ze zg; have zf := B.size; replace zg := Nat.le_of_eq zg.symm; replace B := vH.chg B ze; have rd := ht; clear ht; simp only [zn]) | fail)
  go_wp2; go_ret; exact ⟨rfl, rd, B.toChg⟩
 | false =>
  by_cases h : i + m ≤ l.length
  ·have q1 : ¬ ((l.length : Int) - i < (m : Int)) := by omega
   rw [vA h]; go_enter func88, ntmps88
   go_upto_region 5 with (first | (go_at_call 139; refine (zaj l i false b ((l.length : Int) - i) _ rd hl hi rfl).mono ?_; rintro e wn ⟨rfl, za⟩; have zf := B.size; have zg := za.size; replace B := B.trans (za.mono B.size); replace rd := rd.of_eq (za.block _ rd.lt); have c1 : wn.cell? ⟨b, 1, none⟩ = some (.int .i64 (i : Int)) := rd.cell 1 rfl) | fail)
   refine wp_region_lit ?_; go_wp2_with (first | (refine xr (t := 180) rfl _ _ rfl _ 1 rfl _ rfl rd rfl ?_; clear rd; intro wn ht ze zg; have zf := B.size; replace zg := Nat.le_of_eq zg.symm; replace B := vH.chg B ze; have rd := ht; clear ht; simp only [zn]) | fail)
   have hat : (i : Int) + (m : Int) = ((i + m : Nat) : Int) := by omega
   rw [hat] at rd; replace rd : zw 180 _ b (XL l (i + m) false) := rd; clear hat c1; go_upto_region 6 with fail
   refine zt (by kernel_rfl) (by kernel_rfl) ?_; repeat (first | go_big_quiet_skip | (go_big_quiet_want; first | (refine zq (fun w hw => Zs (ziX (zY rd w hw))) ?_; simp only [zn]; go_big_quiet_on) | (refine zq (fun w hw => qt (ziW (zY rd w hw))) ?_; simp only [zn]; go_big_quiet_on) | (refine XD rfl l rfl _ _ rfl rfl i (i + m) (by omega) (by omega) (by omega) h m (by omega) ?_; simp only [zn]; go_big_quiet_on) | (go_big_quiet_op; first | go_big_quiet_on | go_big_quiet_call ((fail)))))
   refine wpQuiet_nil ?_; intro wn za; have zf := B.size; have zg := za.size; replace B := B.trans (za.mono B.size); try replace rd := rd.be za
   go_wp2; go_ret; exact ⟨rfl, rd, B.toChg⟩
  ·have q1 : ((l.length : Int) - i < (m : Int)) := by omega
   have hT : vQ l (i, false) m = ([], (i, true)) := if_neg (fun k => h k.2); rw [hT]; clear hT; go_enter func88, ntmps88
   go_upto_region 3 with (first | (go_at_call 139; refine (zaj l i false b ((l.length : Int) - i) _ rd hl hi rfl).mono ?_; rintro e wn ⟨rfl, za⟩; have zf := B.size; have zg := za.size; replace B := B.trans (za.mono B.size); replace rd := rd.of_eq (za.block _ rd.lt); have c1 : wn.cell? ⟨b, 1, none⟩ = some (.int .i64 (i : Int)) := rd.cell 1 rfl) | fail)
   refine wp_region_lit ?_; go_wp2_with (first | (refine uV (t := 180) rfl _ _ rfl _ 2 rfl true rfl rd rfl ?_; clear rd; intro wn ht ze zg; have zf := B.size; replace zg := Nat.le_of_eq zg.symm; replace B := vH.chg B ze; have rd := ht; clear ht; simp only [zn]) | fail)
   go_wp2; go_ret; exact ⟨rfl, rd, B.toChg⟩
theorem Q8 (l : List UInt8) (i : Nat) (fl : Bool) (b : Nat) (z : Int) (m : Nat) (x : List UInt8) (i2 : Nat) (f2 : Bool) (w : World) (rd : zw 180 w b (XL l i fl)) (hl : l.length ≤ 100000000) (hi : i ≤ l.length) (hm : m ≤ 1000) (hz : z = m) (e : vQ l (i, fl) m = (x, i2, f2)) : Calls Tryz.prog 88 #[.pointer (some ⟨b, 0, none⟩), .int .i64 z] w fun e w' => e = .returned (.string (y5 x)) ∧ zw 180 w' b (XL l i2 f2) ∧ qY b w w' := by
 subst hz
 have := zfs l i fl b m w rd hl hi hm
 rw [e] at this
 exact this
theorem JG (x : List UInt8) {k : Nat} (h : k < x.length) : beN (x.take (k + 1)) = 256 * beN (x.take k) + (x.getD k 0).toNat := by
 have e : x.take (k + 1) = x.take k ++ [x.getD k 0] := by
  rw [List.take_add_one, List.getElem?_eq_getElem h, List.getD_eq_getElem?_getD, List.getElem?_eq_getElem h]
  rfl
 rw [e, JF]
theorem or8 (n c : Nat) (hn : n < 1099511627776) (hc : c < 256) : bits .or .i64 ((n : Int) * 256) (c : Int) = ((256 * n + c : Nat) : Int) := by
 have e : bits .or .i64 ((n : Int) * 256) (c : Int) = IntKind.i64.wrap ((BitVec.ofInt 64 ((n : Int) * 256) ||| BitVec.ofInt 64 (c : Int)).toNat : Int) := rfl
 have h1 : (BitVec.ofInt 64 ((n : Int) * 256)).toNat = n <<< 8 := by
  rw [show ((n : Int) * 256) = ((n * 256 : Nat) : Int) by omega, BitVec.ofInt_natCast, BitVec.toNat_ofNat, Nat.mod_eq_of_lt (by omega), Nat.shiftLeft_eq]
 have h2 : (BitVec.ofInt 64 (c : Int)).toNat = c := by
  rw [BitVec.ofInt_natCast, BitVec.toNat_ofNat, Nat.mod_eq_of_lt (by omega)]
 rw [e, BitVec.toNat_or, h1, h2, ← Nat.shiftLeft_add_eq_or_of_lt (by omega) n, Nat.shiftLeft_eq]
 unfold IntKind.wrap
 simp [IntKind.bits, IntKind.signed]
 omega
theorem WM {w : World} {b : Nat} {l : List UInt8} (h : Jo w b l) : ∀ w', (∃ u, w' = ov w u) → Jo w' b l := by
 rintro w' ⟨u, rfl⟩
 exact h.of_eq ((ji w u).block _ h.lt)
theorem Jo.u8 {w : World} {b : Nat} {l : List UInt8} (h : Jo w b l) {k c : Nat} (hk : k < l.length) (hc : (l.getD k 0).toNat = c) : w.cell? ⟨b, k, none⟩ = some (.int .u8 (c : Int)) := by
 subst hc
 exact (h.2 k hk).1
theorem Ys (l : List UInt8) (i : Nat) (fl : Bool) (b : Nat) (x : List UInt8) (i2 : Nat) (f2 : Bool) (w : World) (rd : zw 180 w b (XL l i fl)) (hl : l.length ≤ 100000000) (hi : i ≤ l.length) (e : vQ l (i, fl) 1 = (x, i2, f2)) : Calls Tryz.prog 87 #[.pointer (some ⟨b, 0, none⟩), .int .i64 1] w fun e w' => e = .returned (.int .i64 (beN x : Int)) ∧ zw 180 w' b (XL l i2 f2) ∧ qY b w w' := by
 have B := vH.refl b w
 have HT := zo e
 have hxl : x.length ≤ 1 := by have := Jj (l := l) (st := (i, fl)) (m := 1); rw [e] at this; exact this
 have hbl := rd.lt
 clear e
 go_enter func87, ntmps87
 go_upto_region 0 with fail
 refine zS 1 ?_
 go_upto_region 1 with fail
 refine zS 1 ?_
 go_upto_region 2 with fail
 refine qz 2 ?_
 refine xz (zE func138) (c := zap _) (h := ?_)
 rintro e wn ⟨rfl, rfl⟩
 refine ⟨_, rfl, ?_⟩
 simp only [zn]
 refine xz (zE func88) (c := Q8 l i fl b 1 1 x i2 f2 _ rd hl hi (by omega) rfl HT.out) (h := ?_)
 rintro e wn ⟨rfl, rd2, ze⟩
 have zf := B.size
 have zg := ze.size
 replace B := vH.chg B ze
 clear rd
 have rd := rd2
 clear rd2
 refine ⟨_, rfl, ?_⟩
 simp only [zn]
 (refine wa rfl _ rfl x rfl ?_; intro b_fb cap wn zb zd fb za zg; have zf := B.size; replace B := B.trans (za.mono (by omega)); replace rd := rd.of_eq (za.block _ (by omega)); simp only [zn])
 refine j1 underlying75 ?_
 refine z7 1 ?_
 have kb : b < b_fb := by omega
 go_wp2
 go_loopw [5, 7, 14] (fun nv _ iv wr => ∃ k : Nat, k ≤ x.length ∧ iv = .int .i64 (k : Int) ∧ nv = .int .i64 (beN (x.take k) : Int) ∧ Jo wr b_fb x ∧ zw 180 wr b (XL l i2 f2) ∧ vH b w.heap.size w wr) (fun _ _ iv _ => (x.length - intOf iv).toNat)
 case atStart => exact ⟨0, by omega, rfl, rfl, fb, rd, B⟩
 case round =>
  clear fb rd B; obtain ⟨k, hk, rfl, rfl, fb, rd, B⟩ := hrel; by_cases hk1 : k < x.length
  ·have q1 : decide ((k : Int) < (x.length : Int)) = true := zQ (by omega)
   have q2 : decide (k < x.length) = true := zQ hk1; have hst := JG x hk1; have hbn1 := JE (x.take k); have hbn2 : beN (x.take k) < 16777216 := Nat.lt_of_lt_of_le hbn1 (by rw [List.length_take, show (16777216 : Nat) = 256 ^ 3 from rfl]; exact Nat.pow_le_pow_right (by omega) (by omega))
   have hcb := (x.getD k 0).toNat_lt
   generalize beN (x.take k) = n at *
   obtain ⟨c, hc⟩ : ∃ c, (x.getD k 0).toNat = c := ⟨_, rfl⟩; rw [hc] at hst hcb; have HC := zo hc; clear hc; have hor := or8 n c (by omega) hcb; go_upto_region 3 with fail
   refine zS 1 ?_; go_upto_region 4 with fail
   refine wp_region_lit ?_; refine jD 3 ?_; repeat (first | go_big_quiet_skip | (go_big_quiet_want; first | ((first | refine zq (fun w hw => uQ ((WM fb w hw).u8 hk1 HC.out)) ?_ | refine qB ?_ | refine qC ?_); simp only [zn]; go_big_quiet_on) | (go_big_quiet_op; go_big_quiet_on)))
   refine wpQuiet_nil ?_; refine wpList_nil ?_; go_upto_region 5 with fail
   refine zS 6 ?_; go_upto_region 6 with fail
   refine zS 2 ?_; go_wp2; go_roundw
   case rel => exact ⟨k + 1, by omega, by go_num, by rw [hst]; go_num, fb, rd, B⟩
   case measure => simp [intOf]; omega
  ·have q1 : decide ((k : Int) < (x.length : Int)) = false := zB (by omega)
   have q2 : decide (k < x.length) = false := zB hk1; have hkx : x.take k = x := List.take_of_length_le (by omega); rw [hkx]; go_upto_region 3 with fail
   refine zS 1 ?_; go_upto_region 7 with fail
   refine zS 2 ?_; go_wp2; go_ret; exact ⟨rfl, rd, B.toChg⟩
theorem zak (l : List UInt8) (i : Nat) (fl : Bool) (b : Nat) (x : List UInt8) (i2 : Nat) (f2 : Bool) (w : World) (rd : zw 180 w b (XL l i fl)) (hl : l.length ≤ 100000000) (hi : i ≤ l.length) (e : vQ l (i, fl) 2 = (x, i2, f2)) : Calls Tryz.prog 87 #[.pointer (some ⟨b, 0, none⟩), .int .i64 2] w fun e w' => e = .returned (.int .i64 (beN x : Int)) ∧ zw 180 w' b (XL l i2 f2) ∧ qY b w w' := by
 have B := vH.refl b w
 have HT := zo e
 have hxl : x.length ≤ 2 := by have := Jj (l := l) (st := (i, fl)) (m := 2); rw [e] at this; exact this
 have hbl := rd.lt
 clear e
 go_enter func87, ntmps87
 go_upto_region 0 with fail
 refine zS 1 ?_
 go_upto_region 1 with fail
 refine zS 1 ?_
 go_upto_region 2 with fail
 refine qz 2 ?_
 refine xz (zE func138) (c := zaq _) (h := ?_)
 rintro e wn ⟨rfl, rfl⟩
 refine ⟨_, rfl, ?_⟩
 simp only [zn]
 refine xz (zE func88) (c := Q8 l i fl b 2 2 x i2 f2 _ rd hl hi (by omega) rfl HT.out) (h := ?_)
 rintro e wn ⟨rfl, rd2, ze⟩
 have zf := B.size
 have zg := ze.size
 replace B := vH.chg B ze
 clear rd
 have rd := rd2
 clear rd2
 refine ⟨_, rfl, ?_⟩
 simp only [zn]
 (refine wa rfl _ rfl x rfl ?_; intro b_fb cap wn zb zd fb za zg; have zf := B.size; replace B := B.trans (za.mono (by omega)); replace rd := rd.of_eq (za.block _ (by omega)); simp only [zn])
 refine j1 underlying75 ?_
 refine z7 1 ?_
 have kb : b < b_fb := by omega
 go_wp2
 go_loopw [5, 7, 14] (fun nv _ iv wr => ∃ k : Nat, k ≤ x.length ∧ iv = .int .i64 (k : Int) ∧ nv = .int .i64 (beN (x.take k) : Int) ∧ Jo wr b_fb x ∧ zw 180 wr b (XL l i2 f2) ∧ vH b w.heap.size w wr) (fun _ _ iv _ => (x.length - intOf iv).toNat)
 case atStart => exact ⟨0, by omega, rfl, rfl, fb, rd, B⟩
 case round =>
  clear fb rd B; obtain ⟨k, hk, rfl, rfl, fb, rd, B⟩ := hrel; by_cases hk1 : k < x.length
  ·have q1 : decide ((k : Int) < (x.length : Int)) = true := zQ (by omega)
   have q2 : decide (k < x.length) = true := zQ hk1; have hst := JG x hk1; have hbn1 := JE (x.take k); have hbn2 : beN (x.take k) < 16777216 := Nat.lt_of_lt_of_le hbn1 (by rw [List.length_take, show (16777216 : Nat) = 256 ^ 3 from rfl]; exact Nat.pow_le_pow_right (by omega) (by omega))
   have hcb := (x.getD k 0).toNat_lt
   generalize beN (x.take k) = n at *
   obtain ⟨c, hc⟩ : ∃ c, (x.getD k 0).toNat = c := ⟨_, rfl⟩; rw [hc] at hst hcb; have HC := zo hc; clear hc; have hor := or8 n c (by omega) hcb; go_upto_region 3 with fail
   refine zS 1 ?_; go_upto_region 4 with fail
   refine wp_region_lit ?_; refine jD 3 ?_; repeat (first | go_big_quiet_skip | (go_big_quiet_want; first | ((first | refine zq (fun w hw => uQ ((WM fb w hw).u8 hk1 HC.out)) ?_ | refine qB ?_ | refine qC ?_); simp only [zn]; go_big_quiet_on) | (go_big_quiet_op; go_big_quiet_on)))
   refine wpQuiet_nil ?_; refine wpList_nil ?_; go_upto_region 5 with fail
   refine zS 6 ?_; go_upto_region 6 with fail
   refine zS 2 ?_; go_wp2; go_roundw
   case rel => exact ⟨k + 1, by omega, by go_num, by rw [hst]; go_num, fb, rd, B⟩
   case measure => simp [intOf]; omega
  ·have q1 : decide ((k : Int) < (x.length : Int)) = false := zB (by omega)
   have q2 : decide (k < x.length) = false := zB hk1; have hkx : x.take k = x := List.take_of_length_le (by omega); rw [hkx]; go_upto_region 3 with fail
   refine zS 1 ?_; go_upto_region 7 with fail
   refine zS 2 ?_; go_wp2; go_ret; exact ⟨rfl, rd, B.toChg⟩
theorem Yt (l : List UInt8) (i : Nat) (fl : Bool) (b : Nat) (x : List UInt8) (i2 : Nat) (f2 : Bool) (w : World) (rd : zw 180 w b (XL l i fl)) (hl : l.length ≤ 100000000) (hi : i ≤ l.length) (e : vQ l (i, fl) 3 = (x, i2, f2)) : Calls Tryz.prog 87 #[.pointer (some ⟨b, 0, none⟩), .int .i64 3] w fun e w' => e = .returned (.int .i64 (beN x : Int)) ∧ zw 180 w' b (XL l i2 f2) ∧ qY b w w' := by
 have B := vH.refl b w
 have HT := zo e
 have hxl : x.length ≤ 3 := by have := Jj (l := l) (st := (i, fl)) (m := 3); rw [e] at this; exact this
 have hbl := rd.lt
 clear e
 go_enter func87, ntmps87
 go_upto_region 0 with fail
 refine zS 1 ?_
 go_upto_region 1 with fail
 refine zS 1 ?_
 go_upto_region 2 with fail
 refine qz 2 ?_
 refine xz (zE func138) (c := zar _) (h := ?_)
 rintro e wn ⟨rfl, rfl⟩
 refine ⟨_, rfl, ?_⟩
 simp only [zn]
 refine xz (zE func88) (c := Q8 l i fl b 3 3 x i2 f2 _ rd hl hi (by omega) rfl HT.out) (h := ?_)
 rintro e wn ⟨rfl, rd2, ze⟩
 have zf := B.size
 have zg := ze.size
 replace B := vH.chg B ze
 clear rd
 have rd := rd2
 clear rd2
 refine ⟨_, rfl, ?_⟩
 simp only [zn]
 (refine wa rfl _ rfl x rfl ?_; intro b_fb cap wn zb zd fb za zg; have zf := B.size; replace B := B.trans (za.mono (by omega)); replace rd := rd.of_eq (za.block _ (by omega)); simp only [zn])
 refine j1 underlying75 ?_
 refine z7 1 ?_
 have kb : b < b_fb := by omega
 go_wp2
 go_loopw [5, 7, 14] (fun nv _ iv wr => ∃ k : Nat, k ≤ x.length ∧ iv = .int .i64 (k : Int) ∧ nv = .int .i64 (beN (x.take k) : Int) ∧ Jo wr b_fb x ∧ zw 180 wr b (XL l i2 f2) ∧ vH b w.heap.size w wr) (fun _ _ iv _ => (x.length - intOf iv).toNat)
 case atStart => exact ⟨0, by omega, rfl, rfl, fb, rd, B⟩
 case round =>
  clear fb rd B; obtain ⟨k, hk, rfl, rfl, fb, rd, B⟩ := hrel; by_cases hk1 : k < x.length
  ·have q1 : decide ((k : Int) < (x.length : Int)) = true := zQ (by omega)
   have q2 : decide (k < x.length) = true := zQ hk1; have hst := JG x hk1; have hbn1 := JE (x.take k); have hbn2 : beN (x.take k) < 16777216 := Nat.lt_of_lt_of_le hbn1 (by rw [List.length_take, show (16777216 : Nat) = 256 ^ 3 from rfl]; exact Nat.pow_le_pow_right (by omega) (by omega))
   have hcb := (x.getD k 0).toNat_lt
   generalize beN (x.take k) = n at *
   obtain ⟨c, hc⟩ : ∃ c, (x.getD k 0).toNat = c := ⟨_, rfl⟩; rw [hc] at hst hcb; have HC := zo hc; clear hc; have hor := or8 n c (by omega) hcb; go_upto_region 3 with fail
   refine zS 1 ?_; go_upto_region 4 with fail
   refine wp_region_lit ?_; refine jD 3 ?_; repeat (first | go_big_quiet_skip | (go_big_quiet_want; first | ((first | refine zq (fun w hw => uQ ((WM fb w hw).u8 hk1 HC.out)) ?_ | refine qB ?_ | refine qC ?_); simp only [zn]; go_big_quiet_on) | (go_big_quiet_op; go_big_quiet_on)))
   refine wpQuiet_nil ?_; refine wpList_nil ?_; go_upto_region 5 with fail
   refine zS 6 ?_; go_upto_region 6 with fail
   refine zS 2 ?_; go_wp2; go_roundw
   case rel => exact ⟨k + 1, by omega, by go_num, by rw [hst]; go_num, fb, rd, B⟩
   case measure => simp [intOf]; omega
  ·have q1 : decide ((k : Int) < (x.length : Int)) = false := zB (by omega)
   have q2 : decide (k < x.length) = false := zB hk1; have hkx : x.take k = x := List.take_of_length_le (by omega); rw [hkx]; go_upto_region 3 with fail
   refine zS 1 ?_; go_upto_region 7 with fail
   refine zS 2 ?_; go_wp2; go_ret; exact ⟨rfl, rd, B.toChg⟩
theorem vn {o : Oper} {a : Act} {C : World → Prop} {K : Act → Prop} {p i : Operand} (h : o.op = .index 9 p i) (x : List UInt8) (hx : a.eval p = .string (y5 x)) (z : Int) (hi : a.eval i = .int .i64 z) (k c : Nat) (hk : k < x.length) (hz : z = k) (hc : (x.getD k 0).toNat = c) (hK : K (a.put o.dst (.int .u8 (c : Int)))) : o.quiet Tryz.prog a C K := by
 refine YZ (t := 9) h (y5 x) hx z hi k (by rw [jZ]; exact hk) hz ?_
 have e : Y (Qs (y5 x) k) = .int .u8 (c : Int) := by
  subst hc
  rfl
 rw [e]
 exact hK
theorem Vb (d : Nat) (a b : Sp) (w : World) : (Op.equalIn (d + 2) 43 (.agg (jf.enc a)) (.agg (jf.enc b))).run Tryz.prog w = .ok (decide (a = b)) w := by
 obtain ⟨x, y, z⟩ := a
 obtain ⟨x', y', z'⟩ := b
 have h : (Op.equalIn (d + 2) 43 (.agg #[.int .i64 x, .int .i64 y, .int .i64 z]) (.agg #[.int .i64 x', .int .i64 y', .int .i64 z'])).run Tryz.prog w = .ok (x == x' && (y == y' && z == z')) w := by
  by_cases h1 : x = x' <;> by_cases h2 : y = y' <;> by_cases h3 : z = z' <;> simp [go_sem, h1, h2, h3]
 refine h.trans ?_
 congr 1
 rw [Bool.eq_iff_iff]
 simp
theorem zgm (a b : Sp) (w : World) : (binOp .neq 43 (.agg (jf.enc a)) (.agg (jf.enc b))).run Tryz.prog w = .ok (.bool (!decide (a = b))) w := by
 have h := run_neq_struct (P := Tryz.prog) w 43 (jf.enc a) (jf.enc b)
 rw [h, Vb 9998 a b w]; rfl
theorem Zo {o : Oper} {a : Act} {C : World → Prop} {K : Act → Prop} {p q : Operand} {t2 : TypeId} (h : o.op = .binOp .neq 43 p q t2) (x y : Sp) (hx : a.eval p = .agg (jf.enc x)) (hy : a.eval q = .agg (jf.enc y)) (b : Bool) (hb : decide (x = y) = !b) (hk : K (a.put o.dst (.bool b))) : o.quiet Tryz.prog a C K :=
 ⟨_, fun w hw => by
  have hg : (eqGuard .neq 43 p q (.agg (jf.enc x)) (.agg (jf.enc y))).run Tryz.prog w = .ok () w := run_eqGuard_agg w _ 43 p q _ _ (by kernel_rfl); unfold Oper.quietAt execOp; simp only [h, hx, hy, hg, zgm, hb, Bool.not_not, Sem.run_bind, Sem.run_pure, Result.andThen_ok]; exact ⟨rfl, rfl⟩, hk⟩
theorem K9 (d : Nat) (a b : Db) (w : World) : (Op.equalIn (d + 2) 45 (.agg (kA.enc a)) (.agg (kA.enc b))).run Tryz.prog w = .ok (decide (a = b)) w := by
 obtain ⟨x, y, z⟩ := a
 obtain ⟨x', y', z'⟩ := b
 have h : (Op.equalIn (d + 2) 45 (.agg #[.int .i64 x, .int .i64 y, .int .i64 z]) (.agg #[.int .i64 x', .int .i64 y', .int .i64 z'])).run Tryz.prog w = .ok (x == x' && (y == y' && z == z')) w := by
  by_cases h1 : x = x' <;> by_cases h2 : y = y' <;> by_cases h3 : z = z' <;> simp [go_sem, h1, h2, h3]
 refine h.trans ?_
 congr 1
 rw [Bool.eq_iff_iff]
 simp
theorem zgk (a b : Db) (w : World) : (binOp .neq 45 (.agg (kA.enc a)) (.agg (kA.enc b))).run Tryz.prog w = .ok (.bool (!decide (a = b))) w := by
 have h := run_neq_struct (P := Tryz.prog) w 45 (kA.enc a) (kA.enc b)
 rw [h, K9 9998 a b w]; rfl
theorem Zn {o : Oper} {a : Act} {C : World → Prop} {K : Act → Prop} {p q : Operand} {t2 : TypeId} (h : o.op = .binOp .neq 45 p q t2) (x y : Db) (hx : a.eval p = .agg (kA.enc x)) (hy : a.eval q = .agg (kA.enc y)) (b : Bool) (hb : decide (x = y) = !b) (hk : K (a.put o.dst (.bool b))) : o.quiet Tryz.prog a C K :=
 ⟨_, fun w hw => by
  have hg : (eqGuard .neq 45 p q (.agg (kA.enc x)) (.agg (kA.enc y))).run Tryz.prog w = .ok () w := run_eqGuard_agg w _ 45 p q _ _ (by kernel_rfl); unfold Oper.quietAt execOp; simp only [h, hx, hy, hg, zgk, hb, Bool.not_not, Sem.run_bind, Sem.run_pure, Result.andThen_ok]; exact ⟨rfl, rfl⟩, hk⟩
theorem zaL {α : Type} {l m : List α} {i : Nat} (h : l[i]? ≠ m[i]?) : l ≠ m := fun e => h (by rw [e])
theorem zdE {α : Type} {l m : List α} (hl : l.length = m.length) (h : ∀ i, i < l.length → l[i]? = m[i]?) : l = m := by
 refine List.ext_getElem? fun i => ?_
 by_cases hi : i < l.length
 ·exact h i hi
 ·rw [List.getElem?_eq_none (by omega), List.getElem?_eq_none (by omega)]
def zbK (l : List Db) (i : Nat) : Db := l.getD i ⟨0, 0, 0⟩
theorem ZY {l : List Db} {i : Nat} (h : i < l.length) : l[i]? = some (zbK l i) := by
 unfold zbK
 rw [List.getD_eq_getElem?_getD, List.getElem?_eq_getElem h]
 rfl
theorem Ws (v v' : Value) (l m : List Db) (b : Bool) (w : World) (h : xh kA v l w) (h' : xh kA v' m w) (hn : l.length ≤ 1000000) (hn' : m.length ≤ 1000000) (e : decide (l = m) = b) : Calls Tryz.prog 18 #[v, v'] w fun e w' => e = .returned (.bool b) ∧ Below w.heap.size w w' := by
 have B := Below.refl w.heap.size w
 obtain ⟨a1, c1, rfl, _⟩ := h.len
 obtain ⟨a2, c2, rfl, _⟩ := h'.len
 have H1 := zo h
 have H2 := zo h'
 have HE := zo e
 clear h h' e
 go_enter func18, ntmps18
 go_upto_region 1 with fail
 by_cases hlen : l.length = m.length
 ·have q0 : ((l.length : Int) != (m.length : Int)) = false := by rw [hlen]; simp
  have q0' : ((l.length : Int) == (m.length : Int)) = true := by rw [hlen]; simp
  refine qz 1 ?_; refine j1 underlying35 ?_; refine jL 1 ?_; refine j1 underlying35 ?_; refine z7 1 ?_; go_upto_region 3 with fail
  refine zS 1 ?_; go_wp2; go_loopw [5] (fun iv wr => ∃ k : Nat, k ≤ l.length ∧ iv = .int .i64 (k : Int) ∧ Hid (∀ i, i < k → l[i]? = m[i]?) ∧ Below w.heap.size w wr) (fun iv _ => (l.length - intOf iv).toNat)
  case atStart => exact ⟨0, by omega, rfl, zo fun i hi => absurd hi (by omega), B⟩
  case round =>
   clear B; obtain ⟨k, hk, rfl, HA, B⟩ := hrel; by_cases hkl : k < l.length
   ·have q1 : decide ((k : Int) < (l.length : Int)) = true := zQ (by omega)
    have q2 : decide (k < l.length) = true := zQ hkl; have hkm : k < m.length := by omega
    have q3 : decide ((k : Int) < (m.length : Int)) = true := zQ (by omega); have q4 : decide (k < m.length) = true := zQ hkm; obtain ⟨g1, o1, rfl, ca0⟩ := H1.out.at (by omega); obtain ⟨g2, o2, rfl, cb0⟩ := H2.out.at (by omega); have ca := ca0.of_eq (B.block _ ca0.lt); have cb := cb0.of_eq (B.block _ cb0.lt); clear ca0 cb0; have hp := ZY (l := l) hkl; have hp2 := ZY (l := m) hkm
    generalize hx1 : zbK l k = x1 at *
    generalize hx2 : zbK m k = x2 at *
    clear hx1 hx2; by_cases hxx : x1 = x2
    ·have q9 : decide (x1 = x2) = !false := zQ hxx
     have HN := zo (show ∀ i, i < k + 1 → l[i]? = m[i]? from fun i hi => by
      by_cases hik : i = k
      ·rw [hik, hp, hp2, hxx]
      ·exact HA.out i (by omega))
     clear hxx; go_upto_region 4 with fail
     refine qz 2 ?_; refine j1 underlying35 ?_; refine z7 1 ?_; go_upto_region 6 with fail
     have lx_ca := ca.lt
     have lx_cb := cb.lt
     refine zA 9 [] (by kernel_rfl) (by kernel_rfl) (by kernel_rfl) ?_
     rotate_left 0
     simp only [jS, Nat.reduceAdd]; refine vV 9 ?_; repeat (first | go_big_quiet_skip | (go_big_quiet_want; first | ((first | refine zq (fun w hw => (qD ca w hw).load isAgg45 hp) ?_ | refine zq (fun w hw => (qD cb w hw).load isAgg45 hp2) ?_ | refine Zn rfl x1 x2 rfl rfl _ q9 ?_ | refine qB ?_ | refine qC ?_); simp only [zn]; go_big_quiet_on) | (go_big_quiet_op; go_big_quiet_on)))
     refine wpQuiet_nil ?_; refine qi ?_; intro wn za hE; obtain ⟨zf, zg, B⟩ := zM B za
     replace ca := ca.be za
     replace cb := cb.be za
     clear hE; try simp only [List.drop_succ_cons, List.drop_zero]
     refine zI.normal ?_; go_upto_region 5 with fail
     refine zS 3 ?_; go_wp2; go_roundw
     case rel => exact ⟨k + 1, by omega, by go_num, HN, B⟩
     case measure => simp [intOf]; omega
    ·have q9 : decide (x1 = x2) = !true := zB hxx
     have HN := zo (show ¬ l = m from zaL (i := k) (by rw [hp, hp2]; intro h; injection h with h; exact hxx h))
     clear hxx; go_upto_region 4 with fail
     refine qz 2 ?_; refine j1 underlying35 ?_; refine z7 1 ?_; go_upto_region 6 with fail
     have lx_ca := ca.lt
     have lx_cb := cb.lt
     refine zA 9 [] (by kernel_rfl) (by kernel_rfl) (by kernel_rfl) ?_
     rotate_left 0
     simp only [jS, Nat.reduceAdd]; refine vV 9 ?_; repeat (first | go_big_quiet_skip | (go_big_quiet_want; first | ((first | refine zq (fun w hw => (qD ca w hw).load isAgg45 hp) ?_ | refine zq (fun w hw => (qD cb w hw).load isAgg45 hp2) ?_ | refine Zn rfl x1 x2 rfl rfl _ q9 ?_ | refine qB ?_ | refine qC ?_); simp only [zn]; go_big_quiet_on) | (go_big_quiet_op; go_big_quiet_on)))
     refine wpQuiet_nil ?_; refine qi ?_; intro wn za hE; obtain ⟨zf, zg, B⟩ := zM B za; clear hE; try simp only [List.drop_succ_cons, List.drop_zero]
     refine zI.normal ?_; have HB : b = false := by rw [← HE.out]; exact zB (HN.out)
     go_upto_region 7 with fail
     refine zS 1 ?_; go_wp2; go_ret; exact ⟨by (rw [HB]) <;> rfl, B⟩
   ·have q1 : decide ((k : Int) < (l.length : Int)) = false := zB (by omega)
    have q2 : decide (k < l.length) = false := zB hkl; have HN : l = m := zdE hlen (fun i hi => HA.out i (by omega)); have HB : b = true := by rw [← HE.out]; exact zQ (HN)
    clear HN; go_upto_region 4 with fail
    refine qz 2 ?_; refine j1 underlying35 ?_; refine z7 1 ?_; go_upto_region 8 with fail
    refine zS 1 ?_; go_wp2; go_ret; exact ⟨by (rw [HB]) <;> rfl, B⟩
 ·have q0 : ((l.length : Int) != (m.length : Int)) = true := by simp; omega
  have q0' : ((l.length : Int) == (m.length : Int)) = false := by simp; omega
  have HB : b = false := by rw [← HE.out]; exact zB (fun k => hlen (by rw [k]))
  refine qz 1 ?_; refine j1 underlying35 ?_; refine jL 1 ?_; refine j1 underlying35 ?_; refine z7 1 ?_; go_upto_region 2 with fail
  refine zS 1 ?_; go_wp2; go_ret; exact ⟨by (rw [HB]) <;> rfl, B⟩
def EqS (s t : jb) : Prop := s.pts = t.pts ∧ s.rad = t.rad ∧ s.spa = t.spa ∧ s.col = t.col ∧ s.era = t.era ∧ s.pha = t.pha
instance (s t : jb) : Decidable (EqS s t) := by unfold EqS; infer_instance
theorem qw {o : Oper} {a : Act} {C : World → Prop} {K : Act → Prop} {p q : Operand} {t2 : TypeId} (h : o.op = .binOp .neq 28 p q t2) (x y : Px) (hx : a.eval p = .agg #[.int .u8 x.r, .int .u8 x.g, .int .u8 x.b, .int .u8 x.a]) (hy : a.eval q = .agg #[.int .u8 y.r, .int .u8 y.g, .int .u8 y.b, .int .u8 y.a]) (b : Bool) (hb : decide (x = y) = !b) (hk : K (a.put o.dst (.bool b))) : o.quiet Tryz.prog a C K :=
 ⟨_, fun w hw => by
  have hg : (eqGuard .neq 28 p q (.agg #[.int .u8 x.r, .int .u8 x.g, .int .u8 x.b, .int .u8 x.a]) (.agg #[.int .u8 y.r, .int .u8 y.g, .int .u8 y.b, .int .u8 y.a])).run Tryz.prog w = .ok () w := run_eqGuard_agg w _ 28 p q _ _ (by kernel_rfl); have hn : (binOp .neq 28 (.agg #[.int .u8 x.r, .int .u8 x.g, .int .u8 x.b, .int .u8 x.a]) (.agg #[.int .u8 y.r, .int .u8 y.g, .int .u8 y.b, .int .u8 y.a])).run Tryz.prog w = .ok (.bool b) w := (WJ x y w).trans (by rw [hb, Bool.not_not]); unfold Oper.quietAt execOp; simp only [h, hx, hy, hg, hn, Sem.run_bind, Sem.run_pure, Result.andThen_ok]; exact ⟨rfl, rfl⟩, hk⟩
theorem zdx (v v' : Value) (s t : jb) (b : Bool) (w : World) (h : xh jf v s.pts w) (h' : xh jf v' t.pts w) (hn : s.pts.length ≤ 1000000) (hn' : t.pts.length ≤ 1000000) (e : decide (EqS s t) = b) : Calls Tryz.prog 28 #[.agg (jg v s), .agg (jg v' t)] w fun e w' => e = .returned (.bool b) ∧ Below w.heap.size w w' := by
 have B := Below.refl w.heap.size w
 obtain ⟨a1, c1, rfl, _⟩ := h.len
 obtain ⟨a2, c2, rfl, _⟩ := h'.len
 have H1 := zo h
 have H2 := zo h'
 have HE := zo e
 clear h h' e
 go_enter func28, ntmps28
 go_upto_region 0 with fail
 refine wp_region_lit ?_
 (refine jd (t := 30) B ?_; clear B; intro b_r2 wn zb zd r2 za zf zk B)
 (refine jd (t := 30) B ?_; clear B; intro b_r3 wn zb zd r3 za zf zk B; replace r2 := r2.be za)
 refine z7 1 ?_
 have hr23 : b_r2 < b_r3 := by have := r2.lt; omega
 go_upto_region 1 with fail
 by_cases h0 : ¬ s.pts.length = t.pts.length
 ·have q0 : ((s.pts.length : Int) != (t.pts.length : Int)) = true := by simp; first | exact h0 | omega
  have q0' : ((s.pts.length : Int) == (t.pts.length : Int)) = false := by simp; first | exact h0 | omega
  have HB : b = false := by rw [← HE.out]; exact zB (fun k => h0 (congrArg List.length k.1))
  refine wp_region_lit ?_; refine jD 2 ?_
  repeat (first | go_big_quiet_skip | (go_big_quiet_want; first | ((first | refine qw rfl s.col t.col rfl rfl _ q13 ?_ | refine qB ?_ | refine qC ?_); simp only [zn]; go_big_quiet_on) | (go_big_quiet_op; go_big_quiet_on)))
  refine wpQuiet_nil ?_; refine j1 underlying26 ?_; refine jD 2 ?_
  repeat (first | go_big_quiet_skip | (go_big_quiet_want; first | ((first | refine qw rfl s.col t.col rfl rfl _ q13 ?_ | refine qB ?_ | refine qC ?_); simp only [zn]; go_big_quiet_on) | (go_big_quiet_op; go_big_quiet_on)))
  refine wpQuiet_nil ?_; refine j1 underlying26 ?_; refine jD 36 ?_
  repeat (first | go_big_quiet_skip | (go_big_quiet_want; first | ((first | refine zq (fun w hw => xy (zY r2 w hw)) ?_ | refine zq (fun w hw => xy (zY r3 w hw)) ?_ | refine qw rfl s.col t.col rfl rfl _ q13 ?_ | refine qB ?_ | refine qC ?_); simp only [zn]; go_big_quiet_on) | (go_big_quiet_op; go_big_quiet_on)))
  refine wpQuiet_nil ?_; refine wpList_nil ?_; go_upto_region 2 with fail
  refine zS 1 ?_; go_wp2; go_ret; exact ⟨by (rw [HB]) <;> rfl, B⟩
 ·by_cases h1 : ¬ s.rad = t.rad
  ·have q0 : ((s.pts.length : Int) != (t.pts.length : Int)) = false := by simp; first | exact Decidable.not_not.1 h0 | omega
   have q0' : ((s.pts.length : Int) == (t.pts.length : Int)) = true := by simp; first | exact Decidable.not_not.1 h0 | omega
   have q1 : (s.rad != t.rad) = true := by simp; first | exact h1 | omega
   have q1' : (s.rad == t.rad) = false := by simp; first | exact h1 | omega
   have HB : b = false := by rw [← HE.out]; exact zB (fun k => h1 k.2.1)
   refine wp_region_lit ?_; refine jD 2 ?_
   repeat (first | go_big_quiet_skip | (go_big_quiet_want; first | ((first | refine qw rfl s.col t.col rfl rfl _ q13 ?_ | refine qB ?_ | refine qC ?_); simp only [zn]; go_big_quiet_on) | (go_big_quiet_op; go_big_quiet_on)))
   refine wpQuiet_nil ?_; refine j1 underlying26 ?_; refine jD 2 ?_
   repeat (first | go_big_quiet_skip | (go_big_quiet_want; first | ((first | refine qw rfl s.col t.col rfl rfl _ q13 ?_ | refine qB ?_ | refine qC ?_); simp only [zn]; go_big_quiet_on) | (go_big_quiet_op; go_big_quiet_on)))
   refine wpQuiet_nil ?_; refine j1 underlying26 ?_; refine jD 36 ?_
   repeat (first | go_big_quiet_skip | (go_big_quiet_want; first | ((first | refine zq (fun w hw => xy (zY r2 w hw)) ?_ | refine zq (fun w hw => xy (zY r3 w hw)) ?_ | refine qw rfl s.col t.col rfl rfl _ q13 ?_ | refine qB ?_ | refine qC ?_); simp only [zn]; go_big_quiet_on) | (go_big_quiet_op; go_big_quiet_on)))
   refine wpQuiet_nil ?_; refine wpList_nil ?_; go_upto_region 2 with fail
   refine zS 1 ?_; go_wp2; go_ret; exact ⟨by (rw [HB]) <;> rfl, B⟩
  ·by_cases h2 : ¬ s.spa = t.spa
   ·have q0 : ((s.pts.length : Int) != (t.pts.length : Int)) = false := by simp; first | exact Decidable.not_not.1 h0 | omega
    have q0' : ((s.pts.length : Int) == (t.pts.length : Int)) = true := by simp; first | exact Decidable.not_not.1 h0 | omega
    have q1 : (s.rad != t.rad) = false := by simp; first | exact Decidable.not_not.1 h1 | omega
    have q1' : (s.rad == t.rad) = true := by simp; first | exact Decidable.not_not.1 h1 | omega
    have q2 : (s.spa != t.spa) = true := by simp; first | exact h2 | omega
    have q2' : (s.spa == t.spa) = false := by simp; first | exact h2 | omega
    have HB : b = false := by rw [← HE.out]; exact zB (fun k => h2 k.2.2.1)
    refine wp_region_lit ?_; refine jD 2 ?_
    repeat (first | go_big_quiet_skip | (go_big_quiet_want; first | ((first | refine qw rfl s.col t.col rfl rfl _ q13 ?_ | refine qB ?_ | refine qC ?_); simp only [zn]; go_big_quiet_on) | (go_big_quiet_op; go_big_quiet_on)))
    refine wpQuiet_nil ?_; refine j1 underlying26 ?_; refine jD 2 ?_
    repeat (first | go_big_quiet_skip | (go_big_quiet_want; first | ((first | refine qw rfl s.col t.col rfl rfl _ q13 ?_ | refine qB ?_ | refine qC ?_); simp only [zn]; go_big_quiet_on) | (go_big_quiet_op; go_big_quiet_on)))
    refine wpQuiet_nil ?_; refine j1 underlying26 ?_; refine jD 36 ?_
    repeat (first | go_big_quiet_skip | (go_big_quiet_want; first | ((first | refine zq (fun w hw => xy (zY r2 w hw)) ?_ | refine zq (fun w hw => xy (zY r3 w hw)) ?_ | refine qw rfl s.col t.col rfl rfl _ q13 ?_ | refine qB ?_ | refine qC ?_); simp only [zn]; go_big_quiet_on) | (go_big_quiet_op; go_big_quiet_on)))
    refine wpQuiet_nil ?_; refine wpList_nil ?_; go_upto_region 2 with fail
    refine zS 1 ?_; go_wp2; go_ret; exact ⟨by (rw [HB]) <;> rfl, B⟩
   ·by_cases h3 : ¬ s.col = t.col
    ·have q0 : ((s.pts.length : Int) != (t.pts.length : Int)) = false := by simp; first | exact Decidable.not_not.1 h0 | omega
     have q0' : ((s.pts.length : Int) == (t.pts.length : Int)) = true := by simp; first | exact Decidable.not_not.1 h0 | omega
     have q1 : (s.rad != t.rad) = false := by simp; first | exact Decidable.not_not.1 h1 | omega
     have q1' : (s.rad == t.rad) = true := by simp; first | exact Decidable.not_not.1 h1 | omega
     have q2 : (s.spa != t.spa) = false := by simp; first | exact Decidable.not_not.1 h2 | omega
     have q2' : (s.spa == t.spa) = true := by simp; first | exact Decidable.not_not.1 h2 | omega
     have q13 : decide (s.col = t.col) = !true := zB h3; have HB : b = false := by rw [← HE.out]; exact zB (fun k => h3 k.2.2.2.1)
     refine wp_region_lit ?_; refine jD 2 ?_
     repeat (first | go_big_quiet_skip | (go_big_quiet_want; first | ((first | refine qw rfl s.col t.col rfl rfl _ q13 ?_ | refine qB ?_ | refine qC ?_); simp only [zn]; go_big_quiet_on) | (go_big_quiet_op; go_big_quiet_on)))
     refine wpQuiet_nil ?_; refine j1 underlying26 ?_; refine jD 2 ?_
     repeat (first | go_big_quiet_skip | (go_big_quiet_want; first | ((first | refine qw rfl s.col t.col rfl rfl _ q13 ?_ | refine qB ?_ | refine qC ?_); simp only [zn]; go_big_quiet_on) | (go_big_quiet_op; go_big_quiet_on)))
     refine wpQuiet_nil ?_; refine j1 underlying26 ?_; refine jD 36 ?_
     repeat (first | go_big_quiet_skip | (go_big_quiet_want; first | ((first | refine zq (fun w hw => xy (zY r2 w hw)) ?_ | refine zq (fun w hw => xy (zY r3 w hw)) ?_ | refine qw rfl s.col t.col rfl rfl _ q13 ?_ | refine qB ?_ | refine qC ?_); simp only [zn]; go_big_quiet_on) | (go_big_quiet_op; go_big_quiet_on)))
     refine wpQuiet_nil ?_; refine wpList_nil ?_; go_upto_region 2 with fail
     refine zS 1 ?_; go_wp2; go_ret; exact ⟨by (rw [HB]) <;> rfl, B⟩
    ·by_cases h4 : ¬ s.era = t.era
     ·have q0 : ((s.pts.length : Int) != (t.pts.length : Int)) = false := by simp; first | exact Decidable.not_not.1 h0 | omega
      have q0' : ((s.pts.length : Int) == (t.pts.length : Int)) = true := by simp; first | exact Decidable.not_not.1 h0 | omega
      have q1 : (s.rad != t.rad) = false := by simp; first | exact Decidable.not_not.1 h1 | omega
      have q1' : (s.rad == t.rad) = true := by simp; first | exact Decidable.not_not.1 h1 | omega
      have q2 : (s.spa != t.spa) = false := by simp; first | exact Decidable.not_not.1 h2 | omega
      have q2' : (s.spa == t.spa) = true := by simp; first | exact Decidable.not_not.1 h2 | omega
      have q13 : decide (s.col = t.col) = !false := zQ (Decidable.not_not.1 h3); have q4 : (s.era != t.era) = true := by simp; first | exact h4 | omega
      have q4' : (s.era == t.era) = false := by simp; first | exact h4 | omega
      have HB : b = false := by rw [← HE.out]; exact zB (fun k => h4 k.2.2.2.2.1)
      refine wp_region_lit ?_; refine jD 2 ?_
      repeat (first | go_big_quiet_skip | (go_big_quiet_want; first | ((first | refine qw rfl s.col t.col rfl rfl _ q13 ?_ | refine qB ?_ | refine qC ?_); simp only [zn]; go_big_quiet_on) | (go_big_quiet_op; go_big_quiet_on)))
      refine wpQuiet_nil ?_; refine j1 underlying26 ?_; refine jD 2 ?_
      repeat (first | go_big_quiet_skip | (go_big_quiet_want; first | ((first | refine qw rfl s.col t.col rfl rfl _ q13 ?_ | refine qB ?_ | refine qC ?_); simp only [zn]; go_big_quiet_on) | (go_big_quiet_op; go_big_quiet_on)))
      refine wpQuiet_nil ?_; refine j1 underlying26 ?_; refine jD 36 ?_
      repeat (first | go_big_quiet_skip | (go_big_quiet_want; first | ((first | refine zq (fun w hw => xy (zY r2 w hw)) ?_ | refine zq (fun w hw => xy (zY r3 w hw)) ?_ | refine qw rfl s.col t.col rfl rfl _ q13 ?_ | refine qB ?_ | refine qC ?_); simp only [zn]; go_big_quiet_on) | (go_big_quiet_op; go_big_quiet_on)))
      refine wpQuiet_nil ?_; refine wpList_nil ?_; go_upto_region 2 with fail
      refine zS 1 ?_; go_wp2; go_ret; exact ⟨by (rw [HB]) <;> rfl, B⟩
     ·by_cases h5 : ¬ s.pha = t.pha
      ·have q0 : ((s.pts.length : Int) != (t.pts.length : Int)) = false := by simp; first | exact Decidable.not_not.1 h0 | omega
       have q0' : ((s.pts.length : Int) == (t.pts.length : Int)) = true := by simp; first | exact Decidable.not_not.1 h0 | omega
       have q1 : (s.rad != t.rad) = false := by simp; first | exact Decidable.not_not.1 h1 | omega
       have q1' : (s.rad == t.rad) = true := by simp; first | exact Decidable.not_not.1 h1 | omega
       have q2 : (s.spa != t.spa) = false := by simp; first | exact Decidable.not_not.1 h2 | omega
       have q2' : (s.spa == t.spa) = true := by simp; first | exact Decidable.not_not.1 h2 | omega
       have q13 : decide (s.col = t.col) = !false := zQ (Decidable.not_not.1 h3); have q4 : (s.era != t.era) = false := by simp; first | exact Decidable.not_not.1 h4 | omega
       have q4' : (s.era == t.era) = true := by simp; first | exact Decidable.not_not.1 h4 | omega
       have q5 : (s.pha != t.pha) = true := by simp; first | exact h5 | omega
       have q5' : (s.pha == t.pha) = false := by simp; first | exact h5 | omega
       have HB : b = false := by rw [← HE.out]; exact zB (fun k => h5 k.2.2.2.2.2)
       refine wp_region_lit ?_; refine jD 2 ?_
       repeat (first | go_big_quiet_skip | (go_big_quiet_want; first | ((first | refine qw rfl s.col t.col rfl rfl _ q13 ?_ | refine qB ?_ | refine qC ?_); simp only [zn]; go_big_quiet_on) | (go_big_quiet_op; go_big_quiet_on)))
       refine wpQuiet_nil ?_; refine j1 underlying26 ?_; refine jD 2 ?_
       repeat (first | go_big_quiet_skip | (go_big_quiet_want; first | ((first | refine qw rfl s.col t.col rfl rfl _ q13 ?_ | refine qB ?_ | refine qC ?_); simp only [zn]; go_big_quiet_on) | (go_big_quiet_op; go_big_quiet_on)))
       refine wpQuiet_nil ?_; refine j1 underlying26 ?_; refine jD 36 ?_
       repeat (first | go_big_quiet_skip | (go_big_quiet_want; first | ((first | refine zq (fun w hw => xy (zY r2 w hw)) ?_ | refine zq (fun w hw => xy (zY r3 w hw)) ?_ | refine qw rfl s.col t.col rfl rfl _ q13 ?_ | refine qB ?_ | refine qC ?_); simp only [zn]; go_big_quiet_on) | (go_big_quiet_op; go_big_quiet_on)))
       refine wpQuiet_nil ?_; refine wpList_nil ?_; go_upto_region 2 with fail
       refine zS 1 ?_; go_wp2; go_ret; exact ⟨by (rw [HB]) <;> rfl, B⟩
      ·have q0 : ((s.pts.length : Int) != (t.pts.length : Int)) = false := by simp; first | exact Decidable.not_not.1 h0 | omega
       have q0' : ((s.pts.length : Int) == (t.pts.length : Int)) = true := by simp; first | exact Decidable.not_not.1 h0 | omega
       have q1 : (s.rad != t.rad) = false := by simp; first | exact Decidable.not_not.1 h1 | omega
       have q1' : (s.rad == t.rad) = true := by simp; first | exact Decidable.not_not.1 h1 | omega
       have q2 : (s.spa != t.spa) = false := by simp; first | exact Decidable.not_not.1 h2 | omega
       have q2' : (s.spa == t.spa) = true := by simp; first | exact Decidable.not_not.1 h2 | omega
       have q13 : decide (s.col = t.col) = !false := zQ (Decidable.not_not.1 h3); have q4 : (s.era != t.era) = false := by simp; first | exact Decidable.not_not.1 h4 | omega
       have q4' : (s.era == t.era) = true := by simp; first | exact Decidable.not_not.1 h4 | omega
       have q5 : (s.pha != t.pha) = false := by simp; first | exact Decidable.not_not.1 h5 | omega
       have q5' : (s.pha == t.pha) = true := by simp; first | exact Decidable.not_not.1 h5 | omega
       have hlen := Decidable.not_not.1 h0; have HX := zo (fun k => (show EqS s t from ⟨k, Decidable.not_not.1 h1, Decidable.not_not.1 h2, Decidable.not_not.1 h3, Decidable.not_not.1 h4, Decidable.not_not.1 h5⟩)); refine wp_region_lit ?_; refine jD 2 ?_
       repeat (first | go_big_quiet_skip | (go_big_quiet_want; first | ((first | refine qw rfl s.col t.col rfl rfl _ q13 ?_ | refine qB ?_ | refine qC ?_); simp only [zn]; go_big_quiet_on) | (go_big_quiet_op; go_big_quiet_on)))
       refine wpQuiet_nil ?_; refine j1 underlying26 ?_; refine jD 2 ?_
       repeat (first | go_big_quiet_skip | (go_big_quiet_want; first | ((first | refine qw rfl s.col t.col rfl rfl _ q13 ?_ | refine qB ?_ | refine qC ?_); simp only [zn]; go_big_quiet_on) | (go_big_quiet_op; go_big_quiet_on)))
       refine wpQuiet_nil ?_; refine j1 underlying26 ?_; refine jD 36 ?_
       repeat (first | go_big_quiet_skip | (go_big_quiet_want; first | ((first | refine zq (fun w hw => xy (zY r2 w hw)) ?_ | refine zq (fun w hw => xy (zY r3 w hw)) ?_ | refine qw rfl s.col t.col rfl rfl _ q13 ?_ | refine qB ?_ | refine qC ?_); simp only [zn]; go_big_quiet_on) | (go_big_quiet_op; go_big_quiet_on)))
       refine wpQuiet_nil ?_; refine wpList_nil ?_; clear h0 h1 h2 h3 h4 h5 q13 q4 q4'; go_upto_region 3 with fail
       refine zS 1 ?_; go_wp2; go_loopw [5] (fun iv wr => ∃ k : Nat, k ≤ s.pts.length ∧ iv = .int .i64 (k : Int) ∧ Hid (∀ i, i < k → s.pts[i]? = t.pts[i]?) ∧ Below w.heap.size w wr ∧ zw 30 wr b_r2 (jg (.slice a1 s.pts.length c1) s) ∧ zw 30 wr b_r3 (jg (.slice a2 t.pts.length c2) t)) (fun iv _ => (s.pts.length - intOf iv).toNat)
       case atStart => exact ⟨0, by omega, rfl, zo fun i hi => absurd hi (by omega), B, r2, r3⟩
       case round =>
        clear B r2 r3; obtain ⟨k, hk, rfl, HA, B, r2, r3⟩ := hrel; by_cases hkl : k < s.pts.length
        ·have q1 : decide ((k : Int) < (s.pts.length : Int)) = true := zQ (by omega)
         have q2 : decide (k < s.pts.length) = true := zQ hkl; have hkm : k < t.pts.length := by omega
         have q3 : decide ((k : Int) < (t.pts.length : Int)) = true := zQ (by omega); have q4 : decide (k < t.pts.length) = true := zQ hkm; obtain ⟨g1, o1, rfl, ca0⟩ := H1.out.at (by omega); obtain ⟨g2, o2, rfl, cb0⟩ := H2.out.at (by omega); have ca := ca0.of_eq (B.block _ ca0.lt); have cb := cb0.of_eq (B.block _ cb0.lt); clear ca0 cb0; have hp := qG (l := s.pts) hkl; have hp2 := qG (l := t.pts) hkm
         generalize hx1 : jc s.pts k = x1 at *
         generalize hx2 : jc t.pts k = x2 at *
         clear hx1 hx2; by_cases hxx : x1 = x2
         ·have q9 : decide (x1 = x2) = !false := zQ hxx
          have HN := zo (show ∀ i, i < k + 1 → s.pts[i]? = t.pts[i]? from fun i hi => by
           by_cases hik : i = k
           ·rw [hik, hp, hp2, hxx]
           ·exact HA.out i (by omega))
          clear hxx; go_upto_region 4 with fail
          refine qz 3 ?_
          refine j1 underlying26 ?_; refine z7 1 ?_; go_upto_region 6 with fail
          have lx_r2 := r2.lt
          have lx_r3 := r3.lt
          have lx_ca := ca.lt
          have lx_cb := cb.lt
          refine zA 11 [] (by kernel_rfl) (by kernel_rfl) (by kernel_rfl) ?_
          rotate_left 0
          simp only [jS, Nat.reduceAdd]; refine vV 11 ?_
          repeat (first | go_big_quiet_skip | (go_big_quiet_want; first | ((first | refine zq (fun w hw => (qD ca w hw).load isAgg43 hp) ?_ | refine zq (fun w hw => (qD cb w hw).load isAgg43 hp2) ?_ | refine Zo rfl x1 x2 rfl rfl _ q9 ?_ | refine qB ?_ | refine qC ?_); simp only [zn]; go_big_quiet_on) | (go_big_quiet_op; go_big_quiet_on)))
          refine wpQuiet_nil ?_; refine qi ?_; intro wn za hE; obtain ⟨zf, zg, B⟩ := zM B za
          replace r2 := r2.be za
          replace r3 := r3.be za
          replace ca := ca.be za
          replace cb := cb.be za
          clear hE; try simp only [List.drop_succ_cons, List.drop_zero]
          refine zI.normal ?_; go_upto_region 5 with fail
          refine zS 3 ?_; go_wp2; go_roundw
          case rel => exact ⟨k + 1, by omega, by go_num, HN, B, r2, r3⟩
          case measure => simp [intOf]; omega
         ·have q9 : decide (x1 = x2) = !true := zB hxx
          have HN := zo (show ¬ s.pts = t.pts from zaL (i := k) (by rw [hp, hp2]; intro h; injection h with h; exact hxx h))
          clear hxx; go_upto_region 4 with fail
          refine qz 3 ?_
          refine j1 underlying26 ?_; refine z7 1 ?_; go_upto_region 6 with fail
          have lx_r2 := r2.lt
          have lx_r3 := r3.lt
          have lx_ca := ca.lt
          have lx_cb := cb.lt
          refine zA 11 [] (by kernel_rfl) (by kernel_rfl) (by kernel_rfl) ?_
          rotate_left 0
          simp only [jS, Nat.reduceAdd]; refine vV 11 ?_
          repeat (first | go_big_quiet_skip | (go_big_quiet_want; first | ((first | refine zq (fun w hw => (qD ca w hw).load isAgg43 hp) ?_ | refine zq (fun w hw => (qD cb w hw).load isAgg43 hp2) ?_ | refine Zo rfl x1 x2 rfl rfl _ q9 ?_ | refine qB ?_ | refine qC ?_); simp only [zn]; go_big_quiet_on) | (go_big_quiet_op; go_big_quiet_on)))
          refine wpQuiet_nil ?_; refine qi ?_; intro wn za hE; obtain ⟨zf, zg, B⟩ := zM B za
          replace r2 := r2.be za
          replace r3 := r3.be za
          clear hE; try simp only [List.drop_succ_cons, List.drop_zero]
          refine zI.normal ?_; have HB : b = false := by rw [← HE.out]; exact zB (fun k => HN.out k.1)
          go_upto_region 7 with fail
          refine zS 1 ?_; go_wp2; go_ret; exact ⟨by (rw [HB]) <;> rfl, B⟩
        ·have q1 : decide ((k : Int) < (s.pts.length : Int)) = false := zB (by omega)
         have q2 : decide (k < s.pts.length) = false := zB hkl; have HN : s.pts = t.pts := zdE hlen (fun i hi => HA.out i (by omega)); have HB : b = true := by rw [← HE.out]; exact zQ (HX.out HN)
         clear HN; go_upto_region 4 with fail
         refine qz 3 ?_
         refine j1 underlying26 ?_; refine z7 1 ?_; go_upto_region 8 with fail
         refine zS 1 ?_; go_wp2; go_ret; exact ⟨by (rw [HB]) <;> rfl, B⟩
end Go.Proofs.YtepelndbbhdofaaGreatDoor
