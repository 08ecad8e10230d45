import Derived.Test.YtepelndbbhdofaaGreatDoorKp4

namespace Go.Proofs.YtepelndbbhdofaaGreatDoor
open Go.RowKit Go.Shelf Pl Sha Go.Proofs.Tryz
set_option linter.unusedVariables false
set_option linter.unusedSimpArgs false
set_option maxRecDepth 20000
set_option maxHeartbeats 8000000
theorem yl (L : List Int) (i : Nat) {m : Int} (hm : 0 < m) : 0 ≤ js L i m ∧ js L i m < m := by
 unfold js
 split
 ·exact ⟨Int.emod_nonneg _ (by omega), Int.emod_lt_of_pos _ hm⟩
 ·omega
theorem yT (v : Value) (L : List Int) (i : Nat) (j m q : Int) (w : World) (h : xh inE v L w) (hn : L.length ≤ 17592186044416) (hj : j = i) (hm : 0 < m) (hm2 : m ≤ 1000000) (e : js L i m = q) : Calls Tryz.prog 49 #[v, .int .i64 j, .int .i64 m] w fun e w' => e = .returned (.int .i64 q) ∧ Below w.heap.size w w' := by
 subst hj
 obtain ⟨a, c, rfl, hc⟩ := h.len
 have E := zo e
 by_cases hi : i < L.length
 ·have e1 : js L i m = Qw L i % 1048576 % m := by unfold js; rw [if_pos hi]
  rw [e1] at E; obtain ⟨g, o, rfl, rc⟩ := h.at (by omega); have hix := hi; have b1 := ui (Qw L i); have d1 : decide ((i : Int) < (L.length : Int)) = true := zQ (by omega); have e0 : m ≠ 0 := by omega
  have e00 : (m == 0) = false := by simp; omega
  have hnn : 0 ≤ Qw L i % 1048576 := by omega
  have t1 : Int.tmod (Qw L i % 1048576) m = Qw L i % 1048576 % m := Int.tmod_eq_emod_of_nonneg hnn; clear e e1; go_enter func49, ntmps49
  go_wp2_with (first | (refine zp (t := 3) rfl _ rfl _ _ _ rfl (qt (Y5 rc (getD_some hix))) (by first | with_reducible rfl | omega) ?_; simp only [zn]) | fail)
  go_ret; exact ⟨by (rw [← E.out]) <;> rfl, by go_grown⟩
 ·have e1 : js L i m = 0 := by unfold js; rw [if_neg hi]
  have d1 : decide ((i : Int) < (L.length : Int)) = false := zB (by omega); rw [e1] at E; clear e e1; go_enter func49, ntmps49
  go_wp2; go_ret; exact ⟨by (rw [← E.out]) <;> rfl, by go_grown⟩
def madeN (L : List Int) : Nat := (1 + js L 5 6).toNat
def ZG (L : List Int) (i : Nat) : Sp := ⟨js L (6 + 3 * i) 400 - 100, js L (7 + 3 * i) 400 - 100, 255 - js L (8 + 3 * i) 256⟩
def vN (L : List Int) (k : Nat) : List Sp := (List.range k).map (ZG L)
def xB (L : List Int) : jb := ⟨vN L (madeN L), 1 + js L 0 64, 8 + js L 1 120, vg (js L 4 1000000), decide (js L 3 4 = 1), js L 2 100⟩
theorem JY (L : List Int) : 1 ≤ madeN L ∧ madeN L ≤ 6 := by
 have := yl L 5 (m := 6) (by omega)
 unfold madeN
 omega
theorem QO (L : List Int) (k : Nat) : (vN L k).length = k := by unfold vN; rw [List.length_map, List.length_range]
theorem YR (L : List Int) (k : Nat) : vN L (k + 1) = vN L k ++ [ZG L k] := by
 unfold vN
 rw [List.range_succ, List.map_append]
 rfl
theorem yg {t : TypeId} {ops : Array Oper} {rest : List Oper} {o : Oper} {a : Act} {w : World} {Q : Exit → Act → World → Prop} (hg : o.guard = none) (x y : Operand) (ho : o.op = .store 26 x y) (b i : Nat) (hx : a.eval x = .pointer (some ⟨b, i, none⟩)) (ad : Option Addr) (n cp : Nat) (hy : a.eval y = .slice ad n cp) {cs : Array Value} (ht : zw t w b cs) {c : Value} (hc : cs[i]? = some c)
  (h : ∀ w', zw t w' b (cs.setIfInBounds i (.slice ad n cp)) → qY b w w' → w'.heap.size = w.heap.size → wpList Tryz.prog ops Q rest (a.put o.dst undef) w') : wpList Tryz.prog ops Q (o :: rest) a w := by
 have c0 := ht.cell i hc
 have f0 := ht.frozen i
 refine qj hg x y ho (w.setCell ⟨b, i, none⟩ (.slice ad n cp)) ?_ (h _ ?_ ((qY.refl b w).setCell _) (by simp only [World.size_setCell]))
 ·rw [hx, hy]
  simp [go_sem, c0, f0]
 ·exact heap_setCell_same w b i cs _ _ ht
def bsG (n : Nat) (t : TypeId) (cs : Array Value) : j2 := ⟨Nat, ⟨0⟩, fun b => .slice (some ⟨b, 0, none⟩) 1 1, fun b w => n ≤ b ∧ zw t w b cs, fun _ _ _ hb h => ⟨h.1, h.2.of_eq (hb.block _ h.2.lt)⟩⟩
theorem XJ (v : Value) (L : List Int) (w : World) (ls : xh inE v L w) (hn : L.length ≤ 17592186044416) : Calls Tryz.prog 15 #[v] w fun e w' => ∃ a cp, e = .returned (.agg (jg (.slice a (xB L).pts.length cp) (xB L))) ∧ qM jf w.heap.size (.slice a (xB L).pts.length cp) (xB L).pts w' ∧ Below w.heap.size w w' := by
 have B := Below.refl w.heap.size w
 have HL := zo ls
 obtain ⟨a, c, rfl, hc⟩ := ls.len
 have k0 := yl L 0 (m := 64) (by omega)
 obtain ⟨p0, h0⟩ : ∃ p, js L 0 64 = p := ⟨_, rfl⟩
 rw [h0] at k0
 have Hp0 := zo h0
 have k1 := yl L 1 (m := 120) (by omega)
 obtain ⟨p1, h1⟩ : ∃ p, js L 1 120 = p := ⟨_, rfl⟩
 rw [h1] at k1
 have Hp1 := zo h1
 have k2 := yl L 2 (m := 100) (by omega)
 obtain ⟨p2, h2⟩ : ∃ p, js L 2 100 = p := ⟨_, rfl⟩
 rw [h2] at k2
 have Hp2 := zo h2
 have k3 := yl L 3 (m := 4) (by omega)
 obtain ⟨p3, h3⟩ : ∃ p, js L 3 4 = p := ⟨_, rfl⟩
 rw [h3] at k3
 have Hp3 := zo h3
 have k4 := yl L 4 (m := 1000000) (by omega)
 obtain ⟨p4, h4⟩ : ∃ p, js L 4 1000000 = p := ⟨_, rfl⟩
 rw [h4] at k4
 have Hp4 := zo h4
 have k5 := yl L 5 (m := 6) (by omega)
 obtain ⟨p5, h5⟩ : ∃ p, js L 5 6 = p := ⟨_, rfl⟩
 rw [h5] at k5
 have Hp5 := zo h5
 obtain ⟨e3, he3⟩ : ∃ e, decide (p3 = 1) = e := ⟨_, rfl⟩
 have he3' : (p3 == 1) = e3 := by rw [← he3]; rfl
 have HM := zo (show jg (.slice none 0 0) ⟨[], 1 + p0, 8 + p1, vg p4, e3, p2⟩ = jg (.slice none 0 0) (xB L) from by unfold xB jg; simp only; rw [h0, h1, h2, h3, h4, he3])
 have HNN := zo (show (madeN L : Int) = 1 + p5 from by unfold madeN; rw [h5]; omega)
 obtain ⟨nn, hnn⟩ : ∃ n, madeN L = n := ⟨_, rfl⟩
 have HNV := zo hnn
 rw [hnn] at HNN
 have hn6 : nn ≤ 6 := by have := HNN.out; omega
 clear h0 h1 h2 h3 h4 h5 hnn
 go_enter func15, ntmps15
 go_upto_region 0 with fail
 refine wp_region_lit ?_
 (refine jH (t := 30) (qn _ _ rfl) B ?_; clear B; intro b_r2 wn zb zd r2 za zf zk B; replace ls := ls.be za)
 refine wpList_nil ?_
 go_upto_region 1 with fail
 refine qz 1 ?_
 refine qe B (zE func49) (c := yT _ L 0 0 64 p0 _ ls hn (rfl) (by omega) (by omega) Hp0.out) ?_
 clear B
 intro wn za zf zg B
 replace r2 := r2.be za
 replace ls := ls.be za
 refine jL 2 ?_
 refine qe B (zE func49) (c := yT _ L 1 1 120 p1 _ ls hn (rfl) (by omega) (by omega) Hp1.out) ?_
 clear B
 intro wn za zf zg B
 replace r2 := r2.be za
 replace ls := ls.be za
 refine jL 2 ?_
 refine qe B (zE func49) (c := yT _ L 2 2 100 p2 _ ls hn (rfl) (by omega) (by omega) Hp2.out) ?_
 clear B
 intro wn za zf zg B
 replace r2 := r2.be za
 replace ls := ls.be za
 refine jL 1 ?_
 refine qe B (zE func49) (c := yT _ L 3 3 4 p3 _ ls hn (rfl) (by omega) (by omega) Hp3.out) ?_
 clear B
 intro wn za zf zg B
 replace r2 := r2.be za
 replace ls := ls.be za
 refine jL 2 ?_
 refine qe B (zE func49) (c := yT _ L 4 4 1000000 p4 _ ls hn (rfl) (by omega) (by omega) Hp4.out) ?_
 clear B
 intro wn za zf zg B
 replace r2 := r2.be za
 replace ls := ls.be za
 refine qe B (zE func50) (c := zau p4 _) ?_
 clear B
 intro wn za zf zg B
 replace r2 := r2.be za
 replace ls := ls.be za
 (refine qH rfl (.agg (jg (.slice none 0 0) ⟨[], 1 + p0, 8 + p1, vg p4, e3, p2⟩)) (by kernel_rfl) ?_; simp only [zn])
 (refine jH (t := 30) (qn _ _ rfl) B ?_; clear B; intro b_r3 wn zb zd r3 za zf zk B; replace r2 := r2.be za; replace ls := ls.be za)
 (refine qZ (hone := (by simp [jg, Value.oneCell'])) r3 B ?_; clear r3 B; intro wn r3 ze zf zg B; replace r2 := r2.cg ze)
 refine wpList_nil ?_
 rw [HM.out] at r3
 replace ls := HL.out.be B
 go_upto_region 2 with fail
 refine qz 1 ?_
 refine qe B (zE func49) (c := yT _ L 5 5 6 p5 _ ls hn (rfl) (by omega) (by omega) Hp5.out) ?_
 clear B
 intro wn za zf zg B
 replace r2 := r2.be za
 replace r3 := r3.be za
 replace ls := ls.be za
 refine z7 2 ?_
 have k6 : w.heap.size ≤ b_r2 := by omega
 have k7 : b_r2 < b_r3 := by have := r2.lt; omega
 have k8 := r3.lt
 obtain ⟨b0, hb0⟩ : ∃ n, n = wn.heap.size := ⟨_, rfl⟩
 have k9 : b_r3 < b0 := by omega
 have k10 : b0 ≤ wn.heap.size := by omega
 have od : qM jf b0 (.slice none 0 0) [] wn := qM.nil b0 wn
 clear hb0 k8
 rw [← HNN.out]
 clear ls
 go_wp2
 go_loopw [5] (fun iv wr => ∃ (k cp : Nat) (ad : Option Addr) (P : List Sp), k ≤ nn ∧ iv = .int .i64 (k : Int) ∧ Hid (vN L k = P) ∧ Below w.heap.size w wr ∧ b0 ≤ wr.heap.size ∧ zw 30 wr b_r2 #[.slice none 0 0, .int .i64 0, .int .i64 0, .int .u8 0, .int .u8 0, .int .u8 0, .int .u8 0, .bool false, .int .i64 0] ∧ zw 30 wr b_r3 (jg (.slice ad P.length cp) (xB L)) ∧ qM jf b0 (.slice ad P.length cp) P wr) (fun iv _ => (nn - intOf iv).toNat)
 case atStart => exact ⟨0, 0, none, [], by omega, rfl, zo rfl, B, k10, r2, r3, od⟩
 case round =>
  clear B r2 r3 od k10; obtain ⟨k, cp, ad, P, hk, rfl, HP, B, k10, r2, r3, od⟩ := hrel; have ls := HL.out.be B; by_cases hkn : k < nn
  ·have q1 : decide ((k : Int) < (nn : Int)) = true := zQ (by omega)
   have q2 : decide (k < nn) = true := zQ hkn; have j6 := yl L (6 + 3 * k) (m := 400) (by omega); obtain ⟨x6, g6⟩ : ∃ p, js L (6 + 3 * k) 400 = p := ⟨_, rfl⟩; rw [g6] at j6; have Hx6 := zo g6; have j7 := yl L (7 + 3 * k) (m := 400) (by omega); obtain ⟨x7, g7⟩ : ∃ p, js L (7 + 3 * k) 400 = p := ⟨_, rfl⟩; rw [g7] at j7; have Hx7 := zo g7; have j8 := yl L (8 + 3 * k) (m := 256) (by omega); obtain ⟨x8, g8⟩ : ∃ p, js L (8 + 3 * k) 256 = p := ⟨_, rfl⟩; rw [g8] at j8; have Hx8 := zo g8; have HN := zo (show vN L (k + 1) = P ++ [⟨x6 - 100, x7 - 100, 255 - x8⟩] from by rw [YR, HP.out]; unfold ZG; rw [g6, g7, g8])
   have hPl : P.length ≤ 6 := by rw [← HP.out, QO]; omega
   clear g6 g7 g8; go_upto_region 4 with fail
   refine zS 3 ?_; go_upto_region 6 with fail
   refine zA 22 [(6, zF ?v1_6), (12, zF ?v1_12), (18, zF ?v1_18), (21, bsG (wr.heap.size) 43 (jf.enc ⟨x6 - 100, x7 - 100, 255 - x8⟩))] (by kernel_rfl) (by kernel_rfl) (by kernel_rfl) ?_
   rotate_left 3
   simp only [jS, Nat.reduceAdd]; refine vi 6 ?_
   refine zcB ?_ ?_
   ·intro wn za hE Kx hKx
    obtain ⟨zf, zg, B⟩ := zM B za
    replace r2 := r2.be za
    replace r3 := r3.be za
    replace ls := ls.be za
    replace od := od.be za
    refine zcF func49 ?_
    refine (yT _ L (6 + 3 * k) _ 400 x6 wn ls hn (by omega) (by omega) (by omega) Hx6.out).mono ?_; rintro e wm ⟨rfl, zl⟩; refine ⟨_, rfl, ?_⟩; have hz := hKx () wm trivial zl
    dsimp only [zF] at hz
    exact hz
   rintro ⟨⟩
   dsimp only [zF]
   simp only [zn]; refine vi 5 ?_; refine zcB ?_ ?_
   ·intro wn za hE Kx hKx
    obtain ⟨zf, zg, B⟩ := zM B za
    replace r2 := r2.be za
    replace r3 := r3.be za
    replace ls := ls.be za
    replace od := od.be za
    refine zcF func49 ?_
    refine (yT _ L (7 + 3 * k) _ 400 x7 wn ls hn (by omega) (by omega) (by omega) Hx7.out).mono ?_; rintro e wm ⟨rfl, zl⟩; refine ⟨_, rfl, ?_⟩; have hz := hKx () wm trivial zl
    dsimp only [zF] at hz
    exact hz
   rintro ⟨⟩
   dsimp only [zF]
   simp only [zn]; refine vi 5 ?_; refine zcB ?_ ?_
   ·intro wn za hE Kx hKx
    obtain ⟨zf, zg, B⟩ := zM B za
    replace r2 := r2.be za
    replace r3 := r3.be za
    replace ls := ls.be za
    replace od := od.be za
    refine zcF func49 ?_
    refine (yT _ L (8 + 3 * k) _ 256 x8 wn ls hn (by omega) (by omega) (by omega) Hx8.out).mono ?_; rintro e wm ⟨rfl, zl⟩; refine ⟨_, rfl, ?_⟩; have hz := hKx () wm trivial zl
    dsimp only [zF] at hz
    exact hz
   rintro ⟨⟩
   dsimp only [zF]
   simp only [zn]; refine vi 2 ?_; refine zcB ?_ ?_
   ·intro wn za hE Kx hKx
    obtain ⟨zf, zg, B⟩ := zM B za
    replace r2 := r2.be za
    replace r3 := r3.be za
    replace od := od.be za
    refine Z5 (E := jf) _ rfl ⟨x6 - 100, x7 - 100, 255 - x8⟩ rfl (by omega) ?_; intro b wm h1 h2 ht zl zm; exact hKx b wm ⟨Nat.le_trans za.size h1, ht⟩ (zl.mono h1)
   rintro b_s50
   dsimp only [zF, bsG]
   simp only [zn]; refine qi ?_; intro wn za hE; obtain ⟨zf, zg, B⟩ := zM B za
   replace r2 := r2.be za
   replace r3 := r3.be za
   replace od := od.be za
   obtain ⟨hge_s50, s50⟩ : _ ∧ zw _ _ _ _ := hE 21; clear hE; try simp only [List.drop_succ_cons, List.drop_zero]
   go_wp2_with (first | (refine yg (t := 30) rfl _ _ rfl _ 0 rfl _ _ _ rfl r3 rfl (xV B (by omega) ?_); clear r3 B; intro wn r3 ze zf zg B; replace r2 := r2.cg ze; replace od := od.chg ze (by omega); simp only [zn]) | (at_builtin; refine jA rfl _ _ rfl _ _ rfl rfl od ((xh.one s50)) (by simp only [List.length_append, List.length_cons, List.length_nil]; omega) (by omega) ?_; intro v_od wn ht za; have zf := B.size; have hbz := za.size; replace B := B.trans (za.mono (by omega)); clear od; replace r2 := r2.of_eq (za.block _ (by omega)); replace r3 := r3.of_eq (za.block _ (by omega)); have od := ht; clear ht; obtain ⟨a_od, c_od, hv, hco⟩ := od.len; (try simp only [List.length_append, List.length_cons, List.length_nil, Nat.zero_add] at hv hco); subst hv; simp only [zn]) | fail)
   refine zI.normal ?_; replace r3 : zw 30 _ b_r3 (jg (.slice a_od (P.length + 1) c_od) (xB L)) := r3; go_upto_region 5 with fail
   refine zS 3 ?_; go_wp2; go_roundw
   case rel => exact ⟨k + 1, _, _, P ++ [⟨x6 - 100, x7 - 100, 255 - x8⟩], by omega, by go_num, HN, B, by omega, r2, by rw [List.length_append]; exact r3, by rw [List.length_append]; exact od⟩
   case measure => simp [intOf]; omega
  ·have q1 : decide ((k : Int) < (nn : Int)) = false := zB (by omega)
   have q2 : decide (k < nn) = false := zB hkn; have HF := zo (show (xB L).pts = P from by rw [← HP.out, show k = nn by omega, ← HNV.out]; rfl)
   go_upto_region 4 with fail
   refine zS 3 ?_; go_upto_region 7 with fail
   have rs := od.mono (show w.heap.size ≤ b0 by omega); refine qz 1 ?_
   (refine qZ (hone := (by simp [jg, Value.oneCell'])) r2 B ?_; clear r2 B; intro wn r2 ze zf zg B; replace rs := (od.chg ze (by omega)).mono (show w.heap.size ≤ b0 by omega))
   refine wpList_nil ?_; first | (refine qO r2 ?_) | (go_step; refine qO r2 ?_) | (go_step; go_step; refine qO r2 ?_) | (go_step; go_step; go_step; refine qO r2 ?_) | (go_step; go_step; go_step; go_step; refine qO r2 ?_) | (go_step; go_step; go_step; go_step; go_step; refine qO r2 ?_)
   rw [HF.out]; exact ⟨_, _, rfl, rs, B⟩
section
variable {P : Program} {n : Nat}
theorem Vs {o : Oper} {a : Act} {w : World} {K K' : Act → World → Prop} {M : Act → World → Prop} {Q : Exit → Act → World → Prop} (hd : ∀ c, o.op ≠ .defer c) (hK : ∀ a w, K' a w → K a w) (h : o.wp P a w K' (qN M)) : o.wpIn Fence.wide n P a w K Q := by
 refine ⟨fun _ _ => trivial, ?_⟩
 rw [Oper.semAt_eq _ _ _ hd]
 unfold Oper.wp at h
 generalize (execOp a.eval o).run P w = z at *
 cases z with
 | ok x w' =>
  cases x with
  | value v => exact hK _ _ h
  | skip => exact hK _ _ h
  | defer d => exact hK _ _ h
  | enter f args =>
   refine ⟨fun h => (by cases h), callsIn_wide.2 (Calls.mono h fun e w'' he => ?_)⟩; cases e with
   | returned v => exact hK _ _ he
   | panicked c => exact he.elim
   | outgrown => exact absurd he (qN.out M)
  | row s args =>
   refine ⟨fun h => (by cases h), fun c cs _ => ?_⟩; obtain ⟨v, w'', h1, h2⟩ := h c cs; exact ⟨v, w'', hK _ _ h1, stepsIn_wide.2 h2⟩
  | _ => exact absurd h (by simp [Oper.upon])
 | halt x w' =>
  cases x with
  | panic v => exact absurd h (by simp [Oper.upon, qN])
  | _ => exact absurd h (by simp [Oper.upon])
theorem zaV {ops : Array Oper} {Q : Exit → Act → World → Prop} {l2 : List Oper} : ∀ (l : List Oper) (a : Act) (w : World), (∀ o ∈ l, ∀ c, o.op ≠ .defer c) → wpList P ops (qN fun a w => wpListIn Fence.wide n P ops Q l2 a w) l a w → wpListIn Fence.wide n P ops Q (l ++ l2) a w
 | [], a, w, _, h => h
 | o :: rest, a, w, hd, h => by
  unfold wpList at h; rw [List.cons_append]; unfold wpListIn; have ih := zaV (ops := ops) (Q := Q) (l2 := l2) rest; by_cases hw : Region.wanted o (yielded ops a.tmps) = true
  ·rw [if_pos hw] at h ⊢
   rcases h with h | h
   ·exact Vs (hd o (List.mem_cons_self ..)) (fun a w hh => ih a w (fun o ho => hd o (List.mem_cons_of_mem _ ho)) hh) h
   ·exact absurd h.2 (qN.out _)
  ·rw [if_neg hw] at h ⊢
   exact ⟨fun _ _ => trivial, ih _ _ (fun o ho => hd o (List.mem_cons_of_mem _ ho)) h⟩
theorem zck {id : Nat} {l : List Oper} {Q : Exit → Act → World → Prop} {a : Act} {w : World} (k : Nat) (hd : Za (l.take k) = true) (h : wpList P l.toArray (qN fun a w => wpListIn Fence.wide n P l.toArray Q (l.drop k) a w) (l.take k) a w) : (Code.region id l.toArray false).wpIn Fence.wide n P Q a w := by
 have := zaV (Q := Q) (l2 := l.drop k) (l.take k) a w (fun o ho => wY hd ho) h
 rw [List.take_append_drop] at this
 exact wpIn_region_lit this
theorem zaf {ops : Array Oper} {K K' M : Act → World → Prop} {Q : Exit → Act → World → Prop} (hd : ∀ o ∈ ops.toList, ∀ c, o.op ≠ .defer c) (hK : ∀ a w, K' a w → K a w) {i : Nat} {a : Act} {w : World} (h : wpOp P ops (qN M) i K' a w) : wpOpIn Fence.wide n P ops Q i K a w := by
 unfold wpOp at h
 unfold wpOpIn
 cases ho : ops[i]? with
 | none => rw [ho] at h; exact hK _ _ h
 | some o =>
  rw [ho] at h; simp only at h ⊢; by_cases hw : Region.wanted o (yielded ops a.tmps) = true
  ·rw [if_pos hw] at h ⊢
   rcases h with h | h
   ·exact Vs (hd o (by rw [Array.mem_toList_iff]; exact Array.mem_of_getElem? ho)) hK h
   ·exact absurd h.2 (qN.out M)
  ·rw [if_neg hw] at h ⊢
   exact ⟨fun _ _ => trivial, hK _ _ h⟩
theorem ZV {ops : Array Oper} {md : Region.Mode} {C : World → Prop} {k g : Nat} {L : Array Bool → Act → Prop} {Q : Exit → Act → World → Prop} (hd : ∀ o ∈ ops.toList, ∀ c, o.op ≠ .defer c) (hL : ∀ done a w, C w → L done a → wpAnyIn Fence.wide n P md ops Q g done a w) :
  ∀ (f : Nat) (done : Array Bool) (a : Act) (w : World), C w → YtepelndbbhdofaaGreatDoor.u7 P md ops C k L f done a → wpAnyIn Fence.wide n P md ops Q (f + g) done a w := by
 intro f
 induction f with
 | zero => intro done a w hw h; rw [Nat.zero_add]; exact hL _ _ _ hw h
 | succ f ih =>
  intro done a w hw h; rw [show f + 1 + g = (f + g) + 1 by omega]; exact ⟨fun h0 => absurd h0 h.1, fun i hi => zaf (M := fun _ _ => True) hd (fun _ _ h => h) (wpOp_of_qOp hw (fun a' w' hw' h' => ih _ a' w' hw' h') (h.2 i hi).2)⟩
theorem Zj {ops : Array Oper} {md : Region.Mode} {Q : Exit → Act → World → Prop} : ∀ (l : List Oper) (k : Nat) (listed : Array Bool) (a : Act) (w : World), (∀ j, l[j]? = ops[k + j]?) →
  Region.seqB md ops l.length k listed = true → wpListIn Fence.wide n P ops Q l a w → wpAnyIn Fence.wide n P md ops Q l.length listed a w
 | [], _, _, _, _, _, hB, h => ⟨by simpa [Region.seqB] using hB, h⟩
 | o :: l, k, listed, a, w, hl, hB, h => by
  have h0 : ops[k]? = some o := by simpa using (hl 0).symm
  simp only [List.length_cons, Region.seqB, Bool.and_eq_true, decide_eq_true_eq] at hB; refine ⟨fun h1 => (by rw [hB.1] at h1; cases h1), fun i hi => ?_⟩
  rw [hB.1] at hi; have hik : i = k := by simpa using hi
  subst hik; have hw : wpOpIn Fence.wide n P ops Q i (wpListIn Fence.wide n P ops Q l) a w := by unfold wpOpIn; simp only [h0]; exact h
  exact wpOpIn_mono (fun a' w' h' => Zj l (i + 1) _ a' w' (fun j => by have := hl (j + 1); simpa [Nat.add_assoc, Nat.add_comm 1 j] using this) hB.2 h') hw
theorem Zi {id : Nat} {Q : Exit → Act → World → Prop} {a : Act} {w : World} {l : List Oper} (k : Nat) (hm : P.follows .mixedOrders = true) (hdf : Za l = true) (hB : Region.lexTailB .any l.toArray k = true)
  (h : wpQuiet P l.toArray (fun w' => ∃ u, w' = ov w u) (fun a' => ∀ w', Below w.heap.size w w' → wpListIn Fence.wide n P l.toArray Q (l.drop k) a' w') (l.take k) a) : (Code.region id l.toArray true).wpIn Fence.wide n P Q a w := by
 have hdo : ∀ o ∈ l.toArray.toList, ∀ c, o.op ≠ .defer c := fun o ho => wY hdf (by simpa using ho)
 simp only [Region.lexTailB, Bool.and_eq_true, decide_eq_true_eq] at hB
 obtain ⟨⟨⟨⟨hsel, hn⟩, hs⟩, hc⟩, hlex⟩ := hB
 have hn' : k < l.length := by simpa using hn
 have htl : (l.take k).length = k := by simp; omega
 have hdl : (l.drop k).length = l.toArray.size - k := by simp
 have inv0 : HeadInv .any l.toArray k (Array.replicate l.toArray.size false) :=
  ⟨by simp, fun j oj _ hl => (by rw [getD_replicate_false] at hl; cases hl), fun t _ ht => getD_in (by simpa using ht) (getD_replicate_false _ _)⟩
 have H := QM (md := .any) (g := l.toArray.size - k) hsel hs hc hn (l.take k) 0 _ a (fun j hj => by
  have hj' : j < k := by rw [htl] at hj; exact hj
  simp [hj']) (by simpa using htl) inv0 (by rw [htl]; exact hlex) h
 refine wpIn_region_any hm ?_
 have := ZV (n := n) (Q := Q) (g := l.toArray.size - k) hdo (fun d a' w' hw' hL => by
  obtain ⟨u, rfl⟩ := hw'; have := Zj (n := n) (md := .any) (Q := Q) (l.drop k) k d a' (ov w u) (fun j => by simp [List.getElem?_drop]) (by rw [hdl]; exact hL.1) (hL.2 _ (ji w u))
  rwa [hdl] at this) _ _ _ w.drew ⟨w.drew, zC ((Below.refl _ _).drew)⟩ H
 rw [htl, show k + (l.toArray.size - k) = l.toArray.size by omega] at this
 exact this
end
def KX (B : Nat) (W : World) (r : Nat) : Prop := r = B ∧ ∃ cs t, W.heap[r]? = some (.cells cs t (0, 0)) ∧ cs.size = 3
def uY {β : Type} (B : Nat) (J : β → World → Prop) : Prop := ∀ s W W' row, J s W → W.grownBy W' row → (∀ r, row = some r → KX B W r) → J s W'
def zcH {β : Type} (b : Nat) (I : β → World → Prop) : Prop := ∀ s W W' row, I s W → W.grownBy W' row → (∀ r, row = some r → b ≤ r ∧ ((∃ o : Obj, W.heap[r]? = some o ∧ o.isCells = false) ∨ KX (b + 2) W r)) → I s W'
theorem zcH.from {β : Type} {b : Nat} {I : β → World → Prop} (h : zcH b I) : OwnFrom b I := fun s W W' row hs hg hr => h s W W' row hs hg fun r e => ⟨(hr r e).1, .inl (hr r e).2⟩
theorem uY.be {β : Type} {B : Nat} {J : β → World → Prop} (h : uY B J) {s : β} {W W' : World} (hs : J s W) (hb : Below W.heap.size W W') : J s W' := h s W W' none hs (xZ hb) (fun r e => by cases e)
theorem uY.chg {β : Type} {B : Nat} {J : β → World → Prop} (h : uY B J) {s : β} {W W' : World} {t : TypeId} {cs : Array Value} (hs : J s W) (hb : zw t W B cs) (h3 : cs.size = 3) (hc : qY B W W') : J s W' :=
 h s W W' (some B) hs ⟨hc.os, hc.tape, hc.output, hc.size, fun k hk hne => hc.block k hk (fun e => hne (by rw [e]))⟩ (fun r e => by cases e; exact ⟨rfl, cs, t, hb, h3⟩)
def Qp {α : Type} (F : Fence) (n : Nat) (P : Program) (g : Nat) (lb : Array Value) (encs : α → Array Value) (Kp : World → World → Prop) (S Sp : List α → Prop) (N : Nat) (w : World) : Prop :=
 ∀ (l : Nat) (J Jx : List α → World → Prop) (W : World), Below w.heap.size w W → uY W.heap.size J → uY W.heap.size Jx →
  (∀ pre x W1, J pre W1 → pre.length < N → W.heap.size < W1.heap.size → YieldAt F (n - 1) P l (encs x) W1 fun e W' =>
   (e = .returned (.bool true) ∧ J (pre ++ [x]) W' ∧ Kp W1 W') ∨ (e = .returned (.bool false) ∧ Jx (pre ++ [x]) W')) →
  J [] W →
  CallsIn F n P g (#[.func (.yield l) #[] #[]] ++ lb) W fun e W' => (∃ v, e = .returned v) ∧ ((∃ xs, S xs ∧ J xs W') ∨ (∃ pre, Sp pre ∧ Jx pre W'))
section
variable {F : Fence} {n : Nat} {P : Program}
theorem QS {α : Type} {g : Operand} {ps : Array Tmp} {assign body : Code} {Q : Exit → Act → World → Prop} {a : Act} {w : World}
  (hro : F.round = none) (h1 : 1 ≤ n) {gf : Nat} {lb : Array Value} (hg : a.eval g = .func (.func gf) #[] lb) (hFg : F.fn gf) (eg : ∀ args w, (callFunc gf args).run P w = .ok (.enter gf args) w)
  {encs : α → Array Value} {Kp : World → World → Prop} {S Sp : List α → Prop} {N : Nat} {w0 : World} (hseq : Qp F (n - 1) P gf lb encs Kp S Sp N w0)
  (hKt : ∀ {A B C : World}, Kp A B → Kp B C → Kp A C) (hKb : ∀ (W : World) (l : Nat) (o o' : Obj), w.heap.size ≤ l → W.heap[l]? = some o → o.isCells = false → o.isWalk = false → Kp W (W.putObj l o'))
  (hKg : ∀ (A B : World), Below A.heap.size A B → Kp A B) (hb0 : Below w0.heap.size w0 w) (hps : ∀ x, (encs x).size = ps.size)
  (I : List α → World → Prop) (hI0 : zcH w.heap.size I) (h0 : I [] w) (As : α → Act → World → Prop) (hAs : ∀ x, OwnFrom w.heap.size (As x))
  (hassign : ∀ (l : Nat) (pre : List α) (x : α) (W : World) (K : Act → World → Prop), I pre W → w.heap.size + 2 < W.heap.size → (∀ a' W', Below W.heap.size W W' → As x a' W' → K a' W') →
   assign.wpIn (F.inRound l) (n - 1 - 1) P (Exit.then K (fun _ _ _ => False)) { tmps := (ps.zip (encs x)).foldl (fun t (p, v) => t.setIfInBounds p v) a.tmps, defers := [] } W)
  (hbody : ∀ (l : Nat) (pre : List α) (x : α) (W : World) (a' : Act), I pre W → As x a' W → pre.length < N → body.wpIn (F.inRound l) (n - 1 - 1) P (ownPostK Kp I (fun _ _ _ => False) (pre ++ [x]) W) a' W)
  (hdone : ∀ (D : Nat) (xs : List α) (W : World), w.heap.size ≤ D → S xs → I xs W → W.heap[D]? = some (.deferred (some [])) → Q .normal { a with defers := { target := .collected D, args := #[] } :: a.defers } W) :
  (Code.rangeFunc g ps assign body).wpIn F n P Q a w := by
 have hI : OwnFrom w.heap.size I := hI0.from
 refine wpIn_rangeFunc fun fn hfn => ?_
 rw [hro]
 obtain ⟨rc, hrc⟩ : ∃ rc : LoopState → Option Code → Loop, rc = fun st pe => { state := st, pending := pe, fn, tmps := a.tmps, params := ps, assign, body, defers := w.heap.size } := ⟨_, rfl⟩
 obtain ⟨W1, hW1⟩ : ∃ W1, (w.alloc (.deferred (some []))).alloc (.loop (rc .ready none)) = W1 := ⟨_, rfl⟩
 have blkL : W1.heap[w.heap.size + 1]? = some (.loop (rc .ready none)) := by
  have := World.alloc_heap_new (w.alloc (.deferred (some []))) (.loop (rc .ready none)); rw [← hW1]
  rwa [World.size_alloc] at this
 have blkD : W1.heap[w.heap.size]? = some (.deferred (some [])) := by
  rw [← hW1]; exact (Below.heap_alloc _ _ _ (by simp)).trans (World.alloc_heap_new w _)
 have grown : Below w0.heap.size w0 W1 := by
  rw [← hW1]; exact hb0.trans ((((Below.refl _ w).alloc (Nat.le_refl _) _).alloc (by simp) _).mono hb0.size)
 have szW1 : w.heap.size ≤ W1.heap.size := by rw [← hW1]; simp; omega
 have Xl : I [] W1 := by rw [← hW1]; exact hI.alloc _ (hI.alloc _ h0)
 refine ⟨w.heap.size + 1, [{ target := .collected w.heap.size, args := #[] }], W1, { target := .fn (.func gf) lb, args := #[.func (.yield (w.heap.size + 1)) #[] #[]] }, W1, gf,
  #[.func (.yield (w.heap.size + 1)) #[] #[]] ++ lb, W1, ?_, ?_, ?_, ?_, fun _ => h1, ?_⟩
 ·rw [← hW1, hrc]; exact run_enterLoop_outer _ _ _ _ _
 ·simp only [resolve, hg]
  simp [go_sem]
 ·intro f' hf'
  simp [Target.leads] at hf'
  subst hf'; exact hFg
 ·simp [invoke, go_sem, eg]
 have hszW1 : W1.heap.size = w.heap.size + 2 := by rw [← hW1]; simp
 refine (hseq (w.heap.size + 1)
  (fun pre W => I pre W ∧ W.heap[w.heap.size + 1]? = some (.loop (rc .ready none)) ∧ W.heap[w.heap.size]? = some (.deferred (some [])))
  (fun _ _ => False) W1 grown
  (fun s A B row hs hg' hr => ⟨hI0 s A B row hs.1 hg' (fun r e => ⟨by have := (hr r e).1; omega, .inr (by have := hr r e; rwa [hszW1] at this)⟩), (hg'.block _ (Array.getElem?_eq_some_iff.1 hs.2.1).1 (fun e => by have := (hr _ e.symm).1; omega)).trans hs.2.1, (hg'.block _ (Array.getElem?_eq_some_iff.1 hs.2.2).1 (fun e => by have := (hr _ e.symm).1; omega)).trans hs.2.2⟩)
  (fun _ _ _ _ hs _ _ => hs) ?_ ⟨Xl, blkL, blkD⟩).mono ?_
 ·rintro pre x W ⟨hi, hl, hk⟩ hlen hbig
  have hy := run_yield (P := P) (args := encs x) hl (by rw [hrc]; exact hps x)
  rw [hrc] at hy; refine ⟨fn, _, assign, body, hy, roundIn_of_wpIn hfn (hassign _ pre x W _ hi (by rw [hszW1] at hbig; exact hbig) fun a' V hb ha => ?_)⟩
  have hlV : V.heap[w.heap.size + 1]? = some (.loop (rc .ready none)) := (hb.block _ (Array.getElem?_eq_some_iff.1 hl).1).trans hl; have hkV : V.heap[w.heap.size]? = some (.deferred (some [])) := (hb.block _ (Array.getElem?_eq_some_iff.1 hk).1).trans hk; have hiV : I pre V := hI pre W V none hi (xZ hb) (fun r e => by cases e); refine ⟨_, run_beginRound hlV (by rw [hrc]), ?_⟩; obtain ⟨V1, hV1⟩ : ∃ V1, V.putObj (w.heap.size + 1) (.loop { rc .ready none with state := .busy }) = V1 := ⟨_, rfl⟩; have hl1 : V1.heap[w.heap.size + 1]? = some (.loop { rc .ready none with state := .busy }) := by rw [← hV1]; exact World.putObj_heap_same (Array.getElem?_eq_some_iff.1 hlV).1
  have hk1 : V1.heap[w.heap.size]? = some (.deferred (some [])) := by rw [← hV1]; exact (World.putObj_heap_other (by omega)).trans hkV
  have hKp1 : Kp W V1 := hKt (hKg _ _ hb) (by rw [← hV1]; exact hKb _ _ _ _ (by omega) hlV rfl rfl)
  have hi1 : I pre V1 := by rw [← hV1]; exact hI.putObj _ hiV (by omega) hlV rfl
  have ha1 : As x a' V1 := by rw [← hV1]; exact (hAs x).putObj _ ha (by omega) hlV rfl
  rw [hV1]; refine wpIn_mono (hbody _ pre x V1 a' hi1 ha1 hlen) ?_; rintro e a3 W3 hp; cases e with
  | normal =>
   obtain ⟨ko, kp, hi3⟩ := hp; have hl3 := ko.same _ _ hl1 rfl; have hk3 := ko.same _ _ hk1 rfl; have he := run_endRound (P := P) none hl3; rw [hrc] at he; refine ⟨_, _, he, .inl ⟨rfl, ⟨hI.putObj _ hi3 (by omega) hl3 rfl, ?_, (World.putObj_heap_other (by omega)).trans hk3⟩, hKt (hKt hKp1 kp) (hKb _ _ _ _ (by omega) hl3 rfl rfl)⟩⟩; rw [World.putObj_heap_same (Array.getElem?_eq_some_iff.1 hl3).1, hrc]
   rfl
  | ret => exact hp.2.elim
  | exit id => exact hp.2.elim
  | goto t => exact hp.2.elim
  | panic ch => exact hp.elim
  | outgrown => exact hp.elim
 ·rintro e W2 ⟨⟨v, rfl⟩, ⟨xs, hS, hi, hl, hk⟩ | ⟨_, _, hf⟩⟩
  ·have he := run_endLoop (P := P) hl (by rw [hrc]; simp)
   rw [hrc] at he; exact ⟨none, _, he, hdone _ xs _ (Nat.le_refl _) hS (hI.putObj _ hi (by omega) hl rfl) ((World.putObj_heap_other (by omega)).trans hk)⟩
  ·exact hf.elim
end
structure Qn (n0 c : Nat) (W W' : World) : Prop where
 size : W.heap.size ≤ W'.heap.size
 low : ∀ k, k < n0 → k ≠ c → k < W.heap.size → W'.heap[k]? = W.heap[k]?
 pts : ∀ (k : Nat) (cs : Array Value), zw 43 W k cs → zw 43 W' k cs
theorem Qn.trans {n0 c : Nat} {X Y Z : World} (h : Qn n0 c X Y) (k : Qn n0 c Y Z) : Qn n0 c X Z :=
 ⟨Nat.le_trans h.size k.size, fun i hi hc hl => (k.low i hi hc (Nat.lt_of_lt_of_le hl h.size)).trans (h.low i hi hc hl), fun i cs hi => k.pts i cs (h.pts i cs hi)⟩
theorem Qn.be {n0 c : Nat} {W W' : World} (h : Below W.heap.size W W') : Qn n0 c W W' :=
 ⟨h.size, fun k _ _ hl => h.block k hl, fun k cs hk => zw.of_eq hk (h.block k (zw.lt hk))⟩
theorem Qn.putObj {n0 c : Nat} (W : World) (l : Nat) (o o' : Obj) (hl : n0 ≤ l) (ho : W.heap[l]? = some o) (hc : o.isCells = false) : Qn n0 c W (W.putObj l o') :=
 ⟨by simp [World.putObj], fun k hk _ _ => World.putObj_heap_other (by omega), fun k cs hk => by
  have hne : k ≠ l := fun e => by
   subst e; rw [show W.heap[k]? = _ from hk] at ho; cases ho
   cases hc
  exact (World.putObj_heap_other hne).trans hk⟩
theorem Qn.exc {n0 c : Nat} {W W' : World} (hs : W.heap.size ≤ W'.heap.size) (h : ∀ k, k < W.heap.size → k ≠ c → W'.heap[k]? = W.heap[k]?) {t : TypeId} {cs : Array Value} (hc : zw t W c cs) (ht : t ≠ 43) : Qn n0 c W W' :=
 ⟨hs, fun k _ hk hl => h k hl hk, fun k ds hk => by
  have hne : k ≠ c := fun e => by
   subst e; have := (show W.heap[k]? = _ from hk).symm.trans hc
   injection this with this
   injection this with _ e _
   exact ht e.symm
  exact zw.of_eq hk (h k (zw.lt hk) hne)⟩
attribute [local go_sem] Oper.semAt_some
set_option linter.unusedVariables false
set_option linter.unusedSimpArgs false
set_option maxRecDepth 20000
theorem zdg (v : Value) (s : jb) (w : World) : Calls Tryz.prog 58 #[.agg (jg v s)] w fun e w' => ∃ b, e = .returned (.func (.func 109) #[] #[.pointer (some ⟨b, 0, none⟩)]) ∧ (w.heap.size ≤ b ∧ b ≤ w.heap.size) ∧ zw 30 w' b (jg v s) ∧ Below w.heap.size w w' := by
 have B := Below.refl w.heap.size w
 go_enter func58, ntmps58
 go_upto_region 0 with fail
 refine wp_region_lit ?_
 (refine jd (t := 30) B ?_; clear B; intro b_r1 wn zb zd r1 za zf zk B)
 refine z7 1 ?_
 have k1 : w.heap.size ≤ b_r1 ∧ b_r1 ≤ w.heap.size := ⟨by omega, by omega⟩
 go_wp2
 go_ret
 exact ⟨_, rfl, k1, r1, B⟩
theorem QA {p q M : Int} (hp : -M ≤ p ∧ p ≤ M) (hq : -M ≤ q ∧ q ≤ M) : -(M * M) ≤ p * q ∧ p * q ≤ M * M := by
 have h1 : 0 ≤ (M - p) * (M + q) := Int.mul_nonneg (by omega) (by omega)
 have h2 : 0 ≤ (M + p) * (M - q) := Int.mul_nonneg (by omega) (by omega)
 have h3 : 0 ≤ (M - p) * (M - q) := Int.mul_nonneg (by omega) (by omega)
 have h4 : 0 ≤ (M + p) * (M + q) := Int.mul_nonneg (by omega) (by omega)
 simp only [Int.sub_mul, Int.mul_sub, Int.add_mul, Int.mul_add] at h1 h2 h3 h4
 constructor <;> omega
theorem zew {s : jb} (h : XM s) {k : Nat} (hk : k ≤ xu s) : 0 ≤ (k : Int) * s.spa ∧ s.pha + k * s.spa ≤ 5300000 := by
 have h1 := JN h
 have h2 := jX (a := (k : Int)) (b := s.spa) (m := 1024) (k := 4096) (by omega) (by omega) (by have := h.s1; omega) h.s2
 have := h.p2
 omega
theorem J4 (s : jb) (k : Nat) : s.pha + ((k + 1 : Nat) : Int) * s.spa = s.pha + k * s.spa + s.spa := by
 rw [Int.natCast_add, Int.add_mul]
 omega
theorem Je {s : jb} (h : XM s) (hn : ¬ s.pts.length = 1) {k : Nat} : k < xu s ↔ s.pha + k * s.spa < yn s.pts := by
 unfold xu
 rw [if_neg hn]
 exact JK h.s1
theorem Xt (s : jb) (hv : XM s) (g o c b b8 n0 n : Nat) (hn1 : 1 ≤ n) (w : World) (r1 : zw 30 w b (jg (.slice (some ⟨g, o, none⟩) s.pts.length c) s)) (hcap : s.pts.length ≤ c) (pc : zH jf g o s.pts w) (hb : b < n0) (hb8 : b ≠ b8) (hg : g < n0) (hg8 : g ≠ b8) (hn0 : n0 ≤ w.heap.size) :
  Qp Fence.wide n Tryz.prog 109 #[.pointer (some ⟨b, 0, none⟩)] (fun i : Fin (xu s) => #[.agg (kA.enc (xA s i.val))]) (Qn n0 b8) (fun xs => xs = List.finRange (xu s)) (fun pre => ∃ k, pre = vw (xu s) k) (xu s) w := fun l J Jx W0 hW hJa hJxa hY h0 => by
 have r1 := r1.of_eq (hW.block _ r1.lt)
 have pc := pc.of_eq (hW.block _ pc.lt)
 have hn0 := Nat.le_trans hn0 hW.size
 have B := Below.refl W0.heap.size W0
 have HA := zo hJa
 have HY := zo hY
 have HV := zo hv
 have HJ0 := zo h0
 have hl1 := hv.l1
 have hl2 := hv.l2
 have hs1 := hv.s1
 have hs2 := hv.s2
 have hr1 := hv.r1
 have hr2 := hv.r2
 have hq1 := hv.p1
 have hq2 := hv.p2
 have hp0 := qG (l := s.pts) (show 0 < s.pts.length by omega)
 have q0 : decide (0 < s.pts.length) = true := zQ (by omega)
 have q0' : decide ((0 : Int) < (s.pts.length : Int)) = true := zQ (by omega)
 clear hW hJa hJxa hY h0 hv
 refine callsIn_wide.2 ?_
 show Calls Tryz.prog 109 #[.func (.yield l) #[] #[], .pointer (some ⟨b, 0, none⟩)] W0 _
 go_enter func109, ntmps109
 go_upto_region 0 with fail
 refine wp_region_lit ?_
 refine jD 4 ?_
 repeat (first | go_big_quiet_skip | (go_big_quiet_want; first | ((first | refine zq (fun w hw => (qD pc w hw).load isAgg43 hp0) ?_ | refine qB ?_ | refine qC ?_); simp only [zn]; go_big_quiet_on) | (go_big_quiet_op; go_big_quiet_on)))
 refine wpQuiet_nil ?_
 (refine jH (t := 43) (xn _ _ rfl) B ?_; clear B; intro b_f3 wn zb zd f3 za zf zk B; replace r1 := r1.be za; replace pc := pc.be za)
 (refine qZ (hone := (by simp [jf, Value.oneCell'])) f3 B ?_; clear f3 B; intro wn f3 ze zf zg B; replace r1 := r1.cg ze; replace pc := pc.cg ze)
 refine wpList_nil ?_
 replace f3 : zw 43 _ b_f3 (jf.enc (jc s.pts 0)) := f3
 have KF := zo (show b_f3 = W0.heap.size by omega)
 have hf0 := f3.lt
 have hJ := HA.out.be HJ0.out B
 go_upto_region 1 with fail
 by_cases h1 : s.pts.length = 1
 ·have q1 : ((s.pts.length : Int) == 1) = true := by rw [h1]; rfl
  have q1' : (s.pts.length == 1) = true := by rw [h1]; rfl
  have hc1 : xu s = 1 := by unfold xu; rw [if_pos h1]
  obtain ⟨R, hR⟩ : ∃ R, zG (s.rad * (jc s.pts 0).p) 255 = R := ⟨_, rfl⟩; have hd : xA s 0 = ⟨(jc s.pts 0).x, (jc s.pts 0).y, R⟩ := by unfold xA; rw [if_pos h1]; unfold zdK; rw [hR]
  obtain ⟨_, _, _, _, hpp1, hpp2⟩ := HV.out.pt (show 0 < s.pts.length by omega); have HR := zo hR; clear hR; refine qz 2 ?_
  refine j1 underlying26 ?_; refine z7 1 ?_; go_upto_region 2 with fail
  refine (wpIn_wide (n := n)).1 ?_; refine zck 9 (by kernel_rfl) ?_; simp only [jS, Nat.reduceAdd]; refine jL 8 ?_
  refine qe B (zE func110) (c := zgM _ s (jc s.pts 0).x (jc s.pts 0).y (jc s.pts 0).p R _ ⟨by omega, hr2⟩ ⟨hpp1, hpp2⟩ HR.out) ?_; clear B; intro wn za zf zg B
  replace r1 := r1.be za
  replace pc := pc.be za
  replace f3 := f3.be za; refine wpList_nil ?_; refine qN.at ?_; try simp only [jS, Nat.reduceAdd]
  replace hJ := HA.out.be HJ0.out B; obtain ⟨fn, tmps, assign, body, hy, hRd⟩ := HY.out (vw (xu s) 0) ⟨0, by omega⟩ _ hJ (by rw [uK (by omega)]; omega) (by have e1 := KF.out; have e2 := f3.lt; omega)
  try dsimp only at hy
  rw [hd] at hy; replace hy := hy; have ee : kA.enc ⟨(jc s.pts 0).x, (jc s.pts 0).y, R⟩ = #[.int .i64 (jc s.pts 0).x, .int .i64 (jc s.pts 0).y, .int .i64 R] := rfl; rw [ee] at hy; have ze : 0 < xu s := by omega
  rw [← Qv ze] at hRd; gi_wp2
  refine hRd.mono ?_; rintro e W1 (⟨rfl, hJ1, hkp⟩ | ⟨rfl, hx1⟩)
  ·gi_wp2
   go_wp2; refine bodyPost_ret (results_none rfl _ _ _) rfl ?_; have eF : vw (xu s) (0 + 1) = List.finRange (xu s) := by rw [show 0 + 1 = xu s by omega]; exact JS _
   rw [eF] at hJ1; exact ⟨⟨_, rfl⟩, .inl ⟨_, rfl, hJ1⟩⟩
  ·gi_wp2
   go_wp2; refine bodyPost_ret (results_none rfl _ _ _) rfl ?_; exact ⟨⟨_, rfl⟩, .inr ⟨_, ⟨_, rfl⟩, hx1⟩⟩
 ·have q1 : ((s.pts.length : Int) == 1) = false := by simp; omega
  have q1' : (s.pts.length == 1) = false := by simp; omega
  have hc1 : ¬ c = 1 := by omega
  refine qz 2 ?_
  refine j1 underlying26 ?_; refine z7 1 ?_; go_upto_region 3 with fail
  refine zS 3 ?_; go_upto_region 4 with fail
  refine qz 3 ?_
  refine j1 underlying26 ?_; refine z7 1 ?_; replace hJ := HA.out.be HJ0.out B; have hsz0 : W0.heap.size < wn.heap.size := by have := f3.lt; omega
  have hbf : b < b_f3 := by have := KF.out; omega
  have hgf : g < b_f3 := by have := KF.out; omega
  clear B hf0; go_wp2; go_loopw [4, 6, 7, 8, 9, 34] (fun lv _ _ _ _ iv wr => ∃ (j k : Nat) (lf : Int), j + 1 ≤ s.pts.length ∧ k ≤ xu s ∧ iv = .int .i64 (j : Int) ∧ lv = .int .i64 lf ∧ Hid (lf = s.pha + k * s.spa - jK s.pts j) ∧ (0 ≤ lf ∧ lf ≤ 5300000) ∧ J (vw (xu s) k) wr ∧ W0.heap.size < wr.heap.size ∧ zw 43 wr b_f3 (jf.enc (jc s.pts j)) ∧ zw 30 wr b (jg (.slice (some ⟨g, o, none⟩) s.pts.length c) s) ∧ zH jf g o s.pts wr) (fun _ _ _ _ _ iv _ => (s.pts.length - intOf iv).toNat)
  case atStart => exact ⟨0, 0, s.pha, by omega, by omega, rfl, rfl, zo (by show s.pha = s.pha + ((0 : Nat) : Int) * s.spa - 0; omega), by omega, hJ, hsz0, f3, r1, pc⟩
  case round =>
   clear hJ hsz0 f3 r1 pc; obtain ⟨j, k, lf, hj, hk, rfl, rfl, HLF, hlf, hJ, hsz0, f3, r1, pc⟩ := hrel; by_cases hjl : j + 1 < s.pts.length
   ·have q2 : decide ((j : Int) < ((s.pts.length - 1 : Nat) : Int)) = true := zQ (by omega)
    have q2' : decide (j < s.pts.length - 1) = true := zQ (by omega); have hp1 := qG (l := s.pts) hjl; have A1 := zo (HV.out.pt (show j < s.pts.length by omega)); have A2 := zo (HV.out.pt hjl); have HPR := zo (show jK s.pts (j + 1) = jK s.pts j + kt (jc s.pts j) (jc s.pts (j + 1)) from rfl); have hLb := Z3 A1.out A2.out; have hLn := YtepelndbbhdofaaGreatDoor.u9 (jc s.pts j) (jc s.pts (j + 1)); have HDK := zo (fun (k : Nat) h2 h3 => zaG (s := s) (k := k) (j := j) h1 (by omega) h2 h3); obtain ⟨L, hL⟩ : ∃ L, kt (jc s.pts j) (jc s.pts (j + 1)) = L := ⟨_, rfl⟩; rw [hL] at HPR HDK hLb hLn; obtain ⟨x1, hx1⟩ : ∃ x, jc s.pts j = x := ⟨_, rfl⟩; obtain ⟨x2, hx2⟩ : ∃ x, jc s.pts (j + 1) = x := ⟨_, rfl⟩; rw [hx1] at A1 f3 HDK hL; rw [hx2] at A2 hp1 HDK hL; have HX2 := zo hx2; have HL := zo hL; clear hx1 hx2 hL; obtain ⟨a1, a2, a3, a4, a5, a6⟩ := A1.out
    obtain ⟨c1, c2, c3, c4, c5, c6⟩ := A2.out; have B := Below.refl wr.heap.size wr; have hr1l := r1.lt; have hpcl := pc.lt; have hf3l := f3.lt; go_upto_region 5 with fail
    refine zS 1 ?_; go_upto_region 6 with fail
    refine wp_region_lit ?_; refine jD 2 ?_; repeat (first | go_big_quiet_skip | (go_big_quiet_want; first | ((first | refine zq (fun w hw => (qD pc w hw).load isAgg43 hp1) ?_ | refine qB ?_ | refine qC ?_); simp only [zn]; go_big_quiet_on) | (go_big_quiet_op; go_big_quiet_on)))
    refine wpQuiet_nil ?_
    (refine jH (t := 43) (xn _ _ rfl) B ?_; clear B; intro b_n6 wn zb zd n6 za zf zk B; replace r1 := r1.be za; replace pc := pc.be za; replace f3 := f3.be za)
    (refine qZ (hone := (by simp [jf, Value.oneCell'])) n6 B ?_; clear n6 B; intro wn n6 ze zf zg B; replace r1 := r1.cg ze; replace pc := pc.cg ze; replace f3 := f3.cg ze)
    refine wpList_nil ?_; replace n6 : zw 43 _ b_n6 (jf.enc x2) := n6; have hnf : b_f3 < b_n6 := by omega
    go_upto_region 7 with fail
    refine qz 2 ?_
    refine qe B (zE func107) (c := KJ x1 x2 L _ A1.out A2.out HL.out) ?_; clear B; intro wn za zf zg B
    replace r1 := r1.be za
    replace pc := pc.be za
    replace f3 := f3.be za
    replace n6 := n6.be za; refine z7 1 ?_; replace hJ := HA.out.be hJ B; have hsz1 : W0.heap.size < wn.heap.size := by have := B.size; omega
    clear B hr1l hpcl hf3l; go_wp2; go_loopw [4, 8, 9] (fun lv _ _ wr => ∃ (k : Nat) (lf : Int), k ≤ xu s ∧ lv = .int .i64 lf ∧ Hid (lf = s.pha + k * s.spa - jK s.pts j) ∧ (0 ≤ lf ∧ lf ≤ 5300000) ∧ J (vw (xu s) k) wr ∧ W0.heap.size < wr.heap.size ∧ zw 43 wr b_f3 (jf.enc x1) ∧ zw 43 wr b_n6 (jf.enc x2) ∧ zw 30 wr b (jg (.slice (some ⟨g, o, none⟩) s.pts.length c) s) ∧ zH jf g o s.pts wr) (fun lv _ _ _ => (L - intOf lv).toNat)
    case atStart => exact ⟨k, lf, hk, rfl, HLF, hlf, hJ, hsz1, f3, n6, r1, pc⟩
    case round =>
     clear hJ hsz0 hsz1 f3 n6 r1 pc hlf HLF hk; obtain ⟨k, lf, hk, rfl, HLF, hlf, hJ, hsz0, f3, n6, r1, pc⟩ := hrel; have B := Below.refl wr.heap.size wr; have hr1l := r1.lt; have hpcl := pc.lt; have hf3l := f3.lt; have hn6l := n6.lt; by_cases zh : lf < L
     ·have q3 : decide (lf < L) = true := zQ zh
      have hkc : k < xu s := (Je HV.out h1).2 (by
       have e1 := HLF.out; have e2 := HPR.out; have e3 : jK s.pts (j + 1) ≤ yn s.pts := XZ s.pts (by omega); omega)
      have HD := zo (show xA s k = zbL s x1 x2 lf L from by
       have e1 := HLF.out; have e2 := HPR.out; have := HDK.out k (by omega) (by omega); rw [this, ← e1])
      obtain ⟨m1, m2⟩ := QA (M := 5300000) (p := x2.x - x1.x) (q := lf) (by omega) (by omega); obtain ⟨m3, m4⟩ := QA (M := 5300000) (p := x2.y - x1.y) (q := lf) (by omega) (by omega); obtain ⟨m5, m6⟩ := QA (M := 5300000) (p := x2.p - x1.p) (q := lf) (by omega) (by omega); obtain ⟨b1, b2⟩ := wX (a := x1.x) (b := x2.x) hlf.1 zh ⟨a1, a2⟩ ⟨c1, c2⟩; obtain ⟨b3, b4⟩ := wX (a := x1.y) (b := x2.y) hlf.1 zh ⟨a3, a4⟩ ⟨c3, c4⟩; obtain ⟨b5, b6⟩ := wX (a := x1.p) (b := x2.p) hlf.1 zh ⟨a5, a6⟩ ⟨c5, c6⟩; obtain ⟨qx, hqx⟩ : ∃ q, zG ((x2.x - x1.x) * lf) L = q := ⟨_, rfl⟩; obtain ⟨qy, hqy⟩ : ∃ q, zG ((x2.y - x1.y) * lf) L = q := ⟨_, rfl⟩; obtain ⟨qp, hqp⟩ : ∃ q, zG ((x2.p - x1.p) * lf) L = q := ⟨_, rfl⟩; rw [hqx] at b1 b2; rw [hqy] at b3 b4; rw [hqp] at b5 b6; obtain ⟨R, hR⟩ : ∃ R, zG (s.rad * (x1.p + qp)) 255 = R := ⟨_, rfl⟩; have HE := zo (show kA.enc (xA s k) = #[.int .i64 (x1.x + qx), .int .i64 (x1.y + qy), .int .i64 R] from by
       rw [HD.out]; show #[_, _, _] = _
       show #[Value.int .i64 (x1.x + zG ((x2.x - x1.x) * lf) L), .int .i64 (x1.y + zG ((x2.y - x1.y) * lf) L), .int .i64 (zG (s.rad * (x1.p + zG ((x2.p - x1.p) * lf) L)) 255)] = _
       rw [hqx, hqy, hqp, hR])
      have HQX := zo hqx; have HQY := zo hqy; have HQP := zo hqp; have HR := zo hR; have HN := zo (show lf + s.spa = s.pha + ((k + 1 : Nat) : Int) * s.spa - jK s.pts j from by rw [J4, HLF.out]; omega)
      have hbd : lf + s.spa ≤ 5300000 := by
       have e1 := zew HV.out (show k + 1 ≤ xu s by omega); have e2 := HN.out; have e3 := wZ s.pts j; omega
      clear hqx hqy hqp hR; go_upto_region 8 with fail
      refine zS 3 ?_; go_upto_region 10 with fail
      have lx_r1 := r1.lt
      have lx_pc := pc.lt
      have lx_f3 := f3.lt
      have lx_n6 := n6.lt
      refine zA 13 [(10, zF ?v1_10)] (by kernel_rfl) (by kernel_rfl) (by kernel_rfl) ?_
      rotate_left 1
      simp only [jS, Nat.reduceAdd]; refine vi 10 ?_
      refine zcB ?_ ?_
      ·intro wn za hE Kx hKx
       obtain ⟨zf, zg, B⟩ := zM B za
       replace r1 := r1.be za
       replace pc := pc.be za
       replace f3 := f3.be za
       replace n6 := n6.be za
       refine zcF func68 ?_
       refine (wg ((x2.x - x1.x) * lf) L qx wn (by omega) (by omega) (by omega) (by omega) HQX.out).mono ?_; rintro e wm ⟨rfl, zl⟩; refine ⟨_, rfl, ?_⟩; have hz := hKx () wm trivial zl
       dsimp only [zF] at hz
       exact hz
      rintro ⟨⟩
      dsimp only [zF]
      simp only [zn]; refine vi 2 ?_; refine qi ?_; intro wn za hE; obtain ⟨zf, zg, B⟩ := zM B za
      replace r1 := r1.be za
      replace pc := pc.be za
      replace f3 := f3.be za
      replace n6 := n6.be za
      clear hE; try simp only [List.drop_succ_cons, List.drop_zero]
      refine zI.normal ?_; go_upto_region 11 with fail
      have lx_r1 := r1.lt
      have lx_pc := pc.lt
      have lx_f3 := f3.lt
      have lx_n6 := n6.lt
      refine zA 13 [(10, zF ?v2_10)] (by kernel_rfl) (by kernel_rfl) (by kernel_rfl) ?_
      rotate_left 1
      simp only [jS, Nat.reduceAdd]; refine vi 10 ?_
      refine zcB ?_ ?_
      ·intro wn za hE Kx hKx
       obtain ⟨zf, zg, B⟩ := zM B za
       replace r1 := r1.be za
       replace pc := pc.be za
       replace f3 := f3.be za
       replace n6 := n6.be za
       refine zcF func68 ?_
       refine (wg ((x2.y - x1.y) * lf) L qy wn (by omega) (by omega) (by omega) (by omega) HQY.out).mono ?_; rintro e wm ⟨rfl, zl⟩; refine ⟨_, rfl, ?_⟩; have hz := hKx () wm trivial zl
       dsimp only [zF] at hz
       exact hz
      rintro ⟨⟩
      dsimp only [zF]
      simp only [zn]; refine vi 2 ?_; refine qi ?_; intro wn za hE; obtain ⟨zf, zg, B⟩ := zM B za
      replace r1 := r1.be za
      replace pc := pc.be za
      replace f3 := f3.be za
      replace n6 := n6.be za
      clear hE; try simp only [List.drop_succ_cons, List.drop_zero]
      refine zI.normal ?_; go_upto_region 12 with fail
      refine (wpIn_wide (n := n)).1 ?_; refine Zi 17 (by kernel_rfl) (by kernel_rfl) (by kernel_rfl) ?_; simp only [jS, Nat.reduceAdd]; repeat (first | go_big_quiet_skip | (go_big_quiet_want; first | ((first | refine qB ?_ | refine qC ?_); simp only [zn]; go_big_quiet_on) | (go_big_quiet_op; first | go_big_quiet_on | go_big_quiet_call ((first | (go_at_call 68; exact zv (wg ((x2.p - x1.p) * lf) L qp _ (by omega) (by omega) (by omega) (by omega) HQP.out)) | (go_at_call 110; exact zv (zgM _ s (x1.x + qx) (x1.y + qy) (x1.p + qp) R _ ⟨by omega, hr2⟩ ⟨b5, b6⟩ HR.out)))))))
      refine wpQuiet_nil ?_; intro wn za; obtain ⟨zf, zg, B⟩ := zM B za; replace r1 := r1.be za; replace pc := pc.be za; replace f3 := f3.be za; replace n6 := n6.be za
      replace hJ := HA.out.be hJ B; obtain ⟨fn, tmps, assign, body, hy, hRd⟩ := HY.out (vw (xu s) k) ⟨k, hkc⟩ _ hJ (by rw [uK hk]; exact hkc) (by have e1 := B.size; omega)
      try dsimp only at hy
      rw [HE.out] at hy; rw [← Qv hkc] at hRd; gi_wp2
      refine hRd.mono ?_; rintro e W1 (⟨rfl, hJ1, hkp⟩ | ⟨rfl, hx1⟩)
      ·replace r1 := r1.of_eq (hkp.low _ hb hb8 r1.lt)
       replace pc := pc.of_eq (hkp.low _ hg hg8 pc.lt); replace f3 := hkp.pts _ _ f3; replace n6 := hkp.pts _ _ n6; have hsz2 : W0.heap.size < W1.heap.size := by have := hkp.size; have := B.size; omega
       gi_wp2
       clear B hy hRd; have B := Below.refl W1.heap.size W1; go_upto_region 9 with fail
       refine zS 5 ?_; go_wp2; go_roundw
       case rel => exact ⟨k + 1, lf + s.spa, by omega, rfl, HN, by omega, hJ1, hsz2, f3, n6, r1, pc⟩
       case measure => simp [intOf]; omega
      ·gi_wp2
       go_wp2; refine bodyPost_ret (results_none rfl _ _ _) rfl ?_; exact ⟨⟨_, rfl⟩, .inr ⟨_, ⟨_, rfl⟩, hx1⟩⟩
     ·have q3 : decide (lf < L) = false := zB zh
      have HN := zo (show lf - L = s.pha + k * s.spa - jK s.pts (j + 1) from by rw [HPR.out, HLF.out]; omega)
      go_upto_region 8 with fail
      refine zS 3 ?_; go_upto_region 13 with fail
      refine zS 4 ?_; go_upto_region 14 with fail
      refine qz 1 ?_
      (refine zZ (t := 43) rfl _ _ rfl _ rfl _ rfl f3 (by kernel_rfl) rfl (by simp [jf, Value.oneCell']) ?_; have f3o := f3; clear f3; intro wn ht ze zg; have zf := B.size; replace zg := Nat.le_of_eq zg.symm; replace hJ := HA.out.chg (t := 43) (cs := jf.enc x1) hJ (by rw [← KF.out]; exact f3o) rfl (by rw [← KF.out]; exact ze); replace r1 := r1.cg ze; replace pc := pc.cg ze; have f3 := ht; clear ht; simp only [zn])
      refine wpList_nil ?_; replace f3 : zw 43 _ b_f3 (jf.enc x2) := f3; rw [← HX2.out] at f3; have hsz2 : W0.heap.size < wn.heap.size := by omega
      go_upto_region 15 with fail
      refine zS 2 ?_; go_wp2; go_roundw
      case rel => exact ⟨j + 1, k, lf - L, by omega, hk, by go_num, rfl, HN, by omega, hJ, hsz2, f3, r1, pc⟩
      case measure => simp [intOf]; omega
   ·have q2 : decide ((j : Int) < ((s.pts.length - 1 : Nat) : Int)) = false := zB (by omega)
    have q2' : decide (j < s.pts.length - 1) = false := zB (by omega); have hkc : k = xu s := by
     have e1 := HLF.out; have e2 : yn s.pts = jK s.pts j := by unfold yn; rw [show s.pts.length - 1 = j by omega]
     have e3 := Je HV.out h1 (k := k); omega
    have B := Below.refl wr.heap.size wr; go_upto_region 5 with fail
    refine zS 1 ?_; go_wp2; go_end0
    have eF : vw (xu s) k = List.finRange (xu s) := by rw [hkc]; exact JS _
    rw [eF] at hJ; exact ⟨⟨_, rfl⟩, .inl ⟨_, rfl, hJ⟩⟩
attribute [local go_sem] Oper.semAt_some
set_option linter.unusedVariables false
set_option linter.unusedSimpArgs false
set_option maxRecDepth 20000
section
variable {α : Type} {k : Nat} {T ST : TypeId} {E : Xz α k T ST} {ops : Array Oper} {rest : List Oper} {o : Oper} {a : Act} {w : World} {Q : Exit → Act → World → Prop}
theorem uS (hg : o.guard = none) (s x : Operand) (ho : o.op = .call { callee := .builtin .append, args := #[s, x], argTypes := #[ST, ST] }) (v u : Value) (hs : a.eval s = v) (hx : a.eval x = u) {B : Nat} {ls ks : List α} (hown : qM E B v ls w) (hu : xh E u ks w) (hlen : ls.length + ks.length ≤ 100000000) (hB : B ≤ w.heap.size)
  (h : ∀ v' w', qM E B v' (ls ++ ks) w' → w.grownBy w' v.ownBlock → wpList Tryz.prog ops Q rest (a.put o.dst v') w') : wpList Tryz.prog ops Q (o :: rest) a w := by
 obtain ⟨i, z, hi, hz, zf, hby, hzc⟩ := E.facts
 have hzs : z.cells.size = k := by rw [hzc, E.size]
 rcases hu with ⟨rfl, rfl⟩ | ⟨g, of, c, rfl, hc, sc⟩ | ⟨ad, c, rfl, rfl⟩
 ·refine wpList_append_own_none (P := Tryz.prog) hg s x ST ho B T i k E.und hi v ls.length (xO E ls) hs hown hx ?_
  exact h v w (by rw [List.append_nil]; exact hown) ⟨rfl, rfl, rfl, Nat.le_refl _, fun _ _ _ => rfl⟩
 ·refine wpList_append_own (P := Tryz.prog) w hg s x ST ho B T i z k E.bytes E.und hi hz zf hby hzs E.pos v ls.length (xO E ls) hs hown ⟨g, of, none⟩ ks.length c (xO E ks) hx (x5 E ks) ?_ (Qc E ks) (by unfold maxLen; omega) ?_ hB ?_
  ·intro j u hu
   have hj : j < ks.length * k := by rw [← x5 E]; exact (List.getElem?_eq_some_iff.1 hu).1
   have e : (⟨g, of, none⟩ : Addr).add j = ⟨g, of + j, none⟩ := by unfold Addr.add; split <;> simp_all
   rw [e]; have hk : 0 < ks.length := by
    rcases Nat.eq_zero_or_pos ks.length with h0 | h0
    ·rw [h0, Nat.zero_mul] at hj; omega
    ·exact h0
   exact (sc hk).row j u hu
  ·have := Nat.mul_le_mul hlen E.small
   omega
  ·intro v' w' h1 h2 h3
   refine h v' w' ?_ h2; unfold qM; rw [QT, List.length_append]; exact h1
 ·refine wpList_append_own (P := Tryz.prog) w hg s x ST ho B T i z k E.bytes E.und hi hz zf hby hzs E.pos v ls.length (xO E ls) hs hown ad 0 c [] hx (by simp) ?_ (by simp) (by unfold maxLen; simp only [List.length_nil] at hlen; omega) ?_ hB ?_
  ·intro j u hu
   simp at hu
  ·have := Nat.mul_le_mul hlen E.small
   simp only [List.length_nil] at this; omega
  ·intro v' w' h1 h2 h3
   refine h v' w' ?_ h2; unfold qM; rw [List.append_nil]; rw [List.append_nil] at h1; exact h1
theorem qM.grown {E : Xz α k T ST} {B : Nat} {v : Value} {ls : List α} {A A' : World} {row : Option Nat} (h : qM E B v ls A) (hg : A.grownBy A' row) (hr : ∀ r, row = some r → r < B ∨ ∃ o : Obj, A.heap[r]? = some o ∧ o.isCells = false) : qM E B v ls A' := by
 refine World.ownsRow.kept (row := row) h hg ?_
 cases hv : v.ownBlock with
 | none => exact .inl rfl
 | some b =>
  right
  intro e; have hb := World.ownsRow.lt h b hv; obtain ⟨_, h2⟩ := h; rcases h2 with ⟨rfl, _⟩ | ⟨g, cap, cur, rfl, _, hgc, _⟩
  ·cases hv
  ·have hgb : g = b := by simpa [Value.ownBlock] using hv
   subst hgb; rcases hr g e.symm with k | ⟨o, ho, hc⟩
   ·omega
   ·rw [hgc] at ho
    cases ho
    cases hc
theorem qM.block {E : Xz α k T ST} {B : Nat} {v : Value} {ls : List α} {A : World} (h : qM E B v ls A) {b : Nat} (hb : v.ownBlock = some b) : ∃ cs, zw T A b cs := by
 obtain ⟨_, h2⟩ := h
 rcases h2 with ⟨rfl, _⟩ | ⟨g, cap, cur, rfl, _, hgc, _⟩
 ·cases hb
 ·have hgb : g = b := by simpa [Value.ownBlock] using hb
  subst hgb; exact ⟨cur, hgc⟩
end
theorem zw.grown {t : TypeId} {A A' : World} {b : Nat} {cs : Array Value} {row : Option Nat} (h : zw t A b cs) (hg : A.grownBy A' row) (hr : row ≠ some b) : zw t A' b cs := (hg.block b h.lt (fun e => hr e.symm)).trans h
theorem Qn.grownT {n0 c : Nat} {W W' : World} {row : Option Nat} (hg : W.grownBy W' row) (hr : ∀ r, row = some r → n0 ≤ r ∧ ∃ t cs, zw t W r cs ∧ t ≠ 43) : Qn n0 c W W' :=
 ⟨hg.size, fun k hk _ hl => hg.block k hl (fun e => by have := (hr k e.symm).1; omega), fun k cs hk => hk.grown hg (fun e => by
  obtain ⟨_, t, ds, hd, ht⟩ := hr k e; have := (show W.heap[k]? = _ from hk).symm.trans hd
  injection this with this
  injection this with _ e' _
  exact ht e'.symm)⟩
theorem KeepsOthers.be {W W' : World} (h : Below W.heap.size W W') : KeepsOthers W W' := ⟨h.size, fun k o hk _ => (h.block k (Array.getElem?_eq_some_iff.1 hk).1).trans hk⟩
theorem JP (s : jb) : (List.finRange (xu s)).map (fun i => xA s i.val) = xS s := by
 unfold xS
 refine List.ext_getElem (by simp) fun i h1 h2 => ?_
 simp
theorem Zr {w : World} {b j : Nat} {v : Value} (h : w.cell? ⟨b, j, none⟩ = some v) : (Instr.loadAt 35 (.pointer (some ⟨b, j, none⟩))).run Tryz.prog w = .ok v w := by
 simp [go_sem, h]
theorem V9 {v : Value} {ops : Array Oper} {rest : List Oper} {o : Oper} {a : Act} {w : World} {Q : Exit → Act → World → Prop} (hg : o.guard = none) (x y : Operand) (ho : o.op = .store 35 x y) (b : Nat) (hx : a.eval x = .pointer (some ⟨b, 0, none⟩)) (a' : Option Addr) (n' c' : Nat) (hy : a.eval y = .slice a' n' c') (ht : zw 35 w b #[v])
  (h : ∀ w', zw 35 w' b #[.slice a' n' c'] → qY b w w' → w'.heap.size = w.heap.size → wpList Tryz.prog ops Q rest (a.put o.dst undef) w') : wpList Tryz.prog ops Q (o :: rest) a w := by
 have c0 := ht.cell 0 rfl
 have f0 := ht.frozen 0
 refine qj hg x y ho (w.setCell ⟨b, 0, none⟩ (.slice a' n' c')) ?_ (h _ ?_ ((qY.refl b w).setCell _) (by simp only [World.size_setCell]))
 ·rw [hx, hy]
  simp [go_sem, c0, f0]
 ·exact heap_setCell_same w b 0 #[v] _ _ ht
theorem Kt (s : jb) (hv : XM s) (g o c b : Nat) (w : World) (r1 : zw 30 w b (jg (.slice (some ⟨g, o, none⟩) s.pts.length c) s)) (hcap : s.pts.length ≤ c) (pc : zH jf g o s.pts w) : Calls Tryz.prog 108 #[.slice none 0 0, .func (.func 109) #[] #[.pointer (some ⟨b, 0, none⟩)]] w fun e w' => ∃ a cp, e = .returned (.slice a (xS s).length cp) ∧ qM kA w.heap.size (.slice a (xS s).length cp) (xS s) w' ∧ Below w.heap.size w w' := by
 have B := Below.refl w.heap.size w
 have HV := zo hv
 have ze := JN hv
 have hb := r1.lt
 have hg0 := pc.lt
 clear hv
 refine (callsIn_wide (n := 3)).1 ?_
 refine callsIn_of_wp_marks func108 rfl trivial ?_ rfl
 simp only [ntmps108, List.size_toArray, List.length_cons, List.length_nil, Nat.reduceAdd, Nat.reduceSub, Array.replicate_succ, Array.replicate_zero, List.push_toArray, List.append_toArray, List.nil_append, List.cons_append]
 refine wpIn_wide.2 ?_
 go_upto_region 0 with fail
 refine wp_region_lit ?_
 (refine V4 (t := 35) rfl _ rfl (.slice none 0 0) rfl (by simp [Value.cells]) (kn B ?_); clear B; intro b_r2 wn zb zd r2 za zf zk B; replace r1 := r1.be (za.mono zb); replace pc := pc.be (za.mono zb); simp only [zn])
 refine z7 1 ?_
 have k2 : w.heap.size ≤ b_r2 := by omega
 have k3 := r2.lt
 go_upto_region 1 with fail
 refine zS 1 ?_
 obtain ⟨w1, hw1⟩ : ∃ w1, w1 = wn := ⟨_, rfl⟩
 rw [← hw1] at B r1 pc r2 k3 ⊢
 clear hw1
 obtain ⟨b0, hb0⟩ : ∃ b0, b0 = w1.heap.size + 3 := ⟨_, rfl⟩
 have HB0 := zo hb0
 clear hb0
 go_wp2
 refine (wpIn_wide (n := 3)).1 ?_
 refine QS (F := Fence.wide) rfl (by omega) (gf := 109) (lb := #[.pointer (some ⟨b, 0, none⟩)]) rfl trivial (zE func109) (Xt s HV.out g o c b b_r2 w.heap.size _ (by omega) _ r1 hcap pc hb (by omega) hg0 (by omega) B.size) (fun h k => Qn.trans h k) (fun W l o o' hl ho hc _ => Qn.putObj W l o o' (by omega) ho hc) (fun A B h => Qn.be h) (Below.refl _ _) (fun _ => rfl)
  (fun pre W => ∃ (ad : Option Addr) (cp : Nat), zw 35 W b_r2 #[.slice ad pre.length cp] ∧ qM kA b0 (.slice ad pre.length cp) (pre.map fun i => xA s i.val) W ∧ Below w.heap.size w W)
  (fun pre W W' row hI hg hr => ?own)
  ⟨none, 0, r2, qM.nil _ _, B⟩
  (fun x a' W => ∃ b5 : Nat, a'.defers = [] ∧ a'.tmps.size = 13 ∧ a'.tmps.getD 2 undef = .pointer (some ⟨b_r2, 0, none⟩) ∧ a'.tmps.getD 5 undef = .pointer (some ⟨b5, 0, none⟩) ∧ zw 45 W b5 (kA.enc (xA s x.val)) ∧ b_r2 < b5 ∧ b0 ≤ W.heap.size)
  (fun x a' W W' row hA hg hr => ?own2) ?assign ?body ?done
 case own =>
  obtain ⟨ad, cp, h1, h2, h3⟩ := hI; have hsz1 := B.size; have hb0 := HB0.out; refine ⟨ad, cp, h1.grown hg (fun e => ?_), h2.grown hg (fun r e => ?_), wu h3 h3.size hg (fun r e => Nat.le_trans hsz1 (hr r e).1)⟩
  ·have := (hr _ e).1
   rcases (hr _ e).2 with ⟨ob, ho, hc⟩ | ⟨h5, _⟩
   ·rw [show W.heap[b_r2]? = _ from h1] at ho
    cases ho
    cases hc
   ·omega
  ·rcases (hr r e).2 with h5 | ⟨h5, _⟩
   ·exact .inr h5
   ·exact .inl (by omega)
 case own2 =>
  obtain ⟨b5, e1, e2, e3, e4, h1, h2, h3⟩ := hA; exact ⟨b5, e1, e2, e3, e4, h1.own hg (fun r e => (hr r e).2), h2, Nat.le_trans h3 hg.size⟩
 case assign =>
  intro l pre x W K ⟨_, _, hl8, _⟩ hbig hK; have hb0 := HB0.out; have B := Below.refl W.heap.size W; have hl := hl8.lt; obtain ⟨⟨X, Y, R⟩, hxy⟩ : ∃ p, xA s x.val = p := ⟨_, rfl⟩; rw [hxy] at hK; rw [hxy]
  dsimp only
  refine Ko ?_; simp only [List.setIfInBounds_toArray, List.set_cons_succ, List.set_cons_zero]; refine zx (by kernel_rfl) ?_
  (refine jH (t := 45) (y9 _ _ rfl) B ?_; clear B; intro b_d5 wn zb zd d5 za zf zk B)
  (refine qZ (hone := (by simp [kA, Value.oneCell'])) d5 B ?_; clear d5 B; intro wn d5 ze zf zg B)
  refine wpList_nil ?_; refine qN.at ?_; refine hK _ _ B ⟨_, rfl, rfl, rfl, rfl, d5, by omega, by have := B.size; omega⟩
 case body =>
  rintro l pre x W ⟨tm, df⟩ ⟨ad, cp, r2, od, BW⟩ ⟨b5, e1, e2, e3, e4, d5, k10, kb0⟩ hpre; obtain ⟨U, hU, hUi⟩ := Wu tm 13 e2; rw [← hUi] at e3 e4; have eL : ((List.range 13).map U).toArray = #[U 0, U 1, U 2, U 3, U 4, U 5, U 6, U 7, U 8, U 9, U 10, U 11, U 12] := rfl; rw [eL] at hU; rw [e3, e4] at hU; subst hU; have e1 : df = [] := e1; subst e1; clear e2 e3 e4 hUi eL; have hb0 := HB0.out; have hpl : (pre.map fun i => xA s i.val).length = pre.length := List.length_map _; have B := Below.refl W.heap.size W; have R2 := zo r2; have hws := BW.size; have r2lt := r2.lt; have d5lt := d5.lt; clear hb0; gi_upto_region 3 with fail
  refine zx (by kernel_rfl) ?_; refine jD 2 ?_
  repeat (first | go_big_quiet_skip | (go_big_quiet_want; first | ((first | refine zq (fun w hw => Zr ((zY r2 w hw).cellL 0 rfl)) ?_ | refine qB ?_ | refine qC ?_); simp only [zn]; go_big_quiet_on) | (go_big_quiet_op; go_big_quiet_on)))
  refine wpQuiet_nil ?_
  (refine yd (E := kA) rfl _ rfl (xA s x.val) rfl (by omega) (kn B ?_); clear B; intro b_t10 wn zb zd t10 za zf zk B; replace od := od.be (za.mono zb); replace r2 := r2.be (za.mono zb); simp only [zn])
  (at_builtin; refine uS rfl _ _ rfl _ _ rfl rfl od (xh.one t10) (by rw [hpl]; simp only [List.length_cons, List.length_nil]; omega) (by omega) ?_; intro v_od wm od2 hgr; simp only [zn])
  have K1 : Qn w.heap.size b_r2 W wn := Qn.be B; have O1 : KeepsOthers W wn := KeepsOthers.be B; have hown : ∀ r, (Value.slice ad pre.length cp).ownBlock = some r → w.heap.size ≤ r ∧ ∃ t cs, zw t wn r cs ∧ t ≠ 43 ∧ r ≠ b_r2 := fun r e => by
   have h1 := (World.ownsRow.lt od r e); obtain ⟨cs, hcs⟩ := od.block e; have hbb := HB0.out; exact ⟨by omega, _, cs, hcs, by decide, by omega⟩
  have K2 := K1.trans (Qn.grownT (c := b_r2) hgr (fun r e => by obtain ⟨h1, t, cs, h2, h3, _⟩ := hown r e; exact ⟨h1, t, cs, h2, h3⟩))
  have O2 := O1.trans (KeepsOthers.of_grownBy hgr (fun j o e ho => by
   obtain ⟨_, t, cs, h2, _⟩ := hown j e; rw [show wn.heap[j]? = _ from h2] at ho; cases ho
   rfl))
  have r2m := r2.grown hgr (fun e => by obtain ⟨_, _, _, _, _, h4⟩ := hown _ e; exact h4 rfl)
  have BW2 := (BW.trans (B.mono hws)).grown hgr (by have := B.size; omega) (fun k e => (hown k e).1)
  have hlen2 : ((pre ++ [x]).map fun i => xA s i.val) = (pre.map fun i => xA s i.val) ++ [xA s x.val] := by rw [List.map_append]; rfl
  rw [← hlen2] at od2; obtain ⟨a_od, c_od, hv, hco⟩ := od2.len; rw [List.length_map] at hv; subst hv; refine V9 rfl _ _ rfl _ rfl _ _ _ rfl r2m ?_; intro wz r2z hcz hsz2; refine wpList_nil ?_; refine qN.at ?_; try dsimp only
  have hb1 : b_r2 < b0 := by have := HB0.out; omega
  refine ⟨O2.trans (KeepsOthers.chgB hcz r2m), K2.trans (Qn.exc (Nat.le_of_eq hsz2.symm) (fun k h1 h2 => hcz.block k h1 h2) r2m (by decide)), a_od, c_od, r2z, od2.chg hcz hb1, ?_⟩; exact qY.be BW2 hcz (by omega) BW2.size
 case done =>
  have hszB := B.size; rintro D xs W hD rfl ⟨ad, cp, r2, od, BW⟩ hDD; have kd : kL W D := hDD; rw [JP, List.length_finRange] at od; rw [List.length_finRange] at r2; have rs := od.rs; have hwD : w.heap.size ≤ D := by omega
  have B := BW; go_upto_region 4 with fail
  refine wp_region_lit ?_; refine jD 2 ?_; repeat (first | go_big_quiet_skip | (go_big_quiet_want; first | ((first | refine zq (fun w hw => Zr ((zY r2 w hw).cellL 0 rfl)) ?_ | refine qB ?_ | refine qC ?_); simp only [zn]; go_big_quiet_on) | (go_big_quiet_op; go_big_quiet_on)))
  refine wpQuiet_nil ?_; refine wpList_nil ?_; go_wp2; refine ⟨by simp, .inl ⟨_, _, rfl, run_takeDeferred kd, ?_⟩⟩; have BF := B.trans (belowK_b (w := w) (Nat.le_refl _) W D _ (.deferred none) hwD kd rfl rfl); refine ⟨.slice ad (xu s) cp, by simp [results, Tryz.results108, go_sem]; try rfl, ?_⟩
  rw [Qu]; exact ⟨ad, cp, rfl, (od.grown (grownBy_putObj' _ _ _) (fun r e => by cases e; exact .inr ⟨_, kd, rfl⟩)).mono (by have := HB0.out; omega), BF⟩
theorem Ku (s : jb) (hv : XM s) (g o c b : Nat) (w : World) (r1 : zw 30 w b (jg (.slice (some ⟨g, o, none⟩) s.pts.length c) s)) (hcap : s.pts.length ≤ c) (pc : zH jf g o s.pts w) : Calls Tryz.prog 57 #[.func (.func 109) #[] #[.pointer (some ⟨b, 0, none⟩)]] w fun e w' => ∃ a cp, e = .returned (.slice a (xS s).length cp) ∧ qM kA w.heap.size (.slice a (xS s).length cp) (xS s) w' ∧ Below w.heap.size w w' := by
 have B := Below.refl w.heap.size w
 go_enter func57, ntmps57
 go_upto_region 1 with fail
 refine qz 1 ?_
 refine xz (zE func108) (c := Kt s hv g o c b _ r1 hcap pc) (h := ?_)
 rintro e wn ⟨a5, c5, rfl, od5, za⟩
 obtain ⟨zf, zg, B⟩ := zM B za
 refine ⟨_, rfl, ?_⟩
 simp only [zn]
 refine z7 1 ?_
 go_wp2
 go_ret
 exact ⟨_, _, rfl, od5, B⟩
theorem Jr (v : Value) (s : jb) (L : List Db) (w : World) (rs : xh jf v s.pts w) (hn : s.pts.length ≤ 17592186044416) (e : yY s = L) : Calls Tryz.prog 19 #[.agg (jg v s)] w fun e w' => ∃ a cp, e = .returned (.slice a L.length cp) ∧ qM kA w.heap.size (.slice a L.length cp) L w' ∧ Below w.heap.size w w' := by
 have B := Below.refl w.heap.size w
 obtain ⟨a, c, rfl, hc⟩ := rs.len
 cases hv : jT s with
 | false =>
  obtain rfl : L = [] := by rw [← e]; unfold yY; rw [hv]; rfl
  have HV := zo hv; clear hv e; go_enter func19, ntmps19
  go_upto_region 0 with fail
  refine wp_region_lit ?_
  (refine jd (t := 30) B ?_; clear B; intro b_r1 wn zb zd r1 za zf zk B; replace rs := rs.be za)
  refine z7 1 ?_; go_upto_region 1 with fail
  refine qz 1 ?_
  refine qe B (zE func16) (c := yi _ s false _ rs hn HV.out) ?_; clear B; intro wn za zf zg B
  replace r1 := r1.be za
  replace rs := rs.be za; refine z7 1 ?_; go_upto_region 2 with fail
  refine zS 1 ?_; go_wp2; go_ret; exact ⟨_, _, rfl, qM.nil _ _, B⟩
 | true =>
  have hL : xS s = L := by rw [← e]; unfold yY; rw [hv]; rfl
  have HL := zo hL; have HVS := zo ((xq s).1 hv); have HV := zo hv; obtain ⟨g, o, rfl, pc⟩ := rs.at (by have := HVS.out.l1; omega)
  have hw0 := Nat.le_refl w.heap.size; clear hv e hL; go_enter func19, ntmps19
  go_upto_region 0 with fail
  refine wp_region_lit ?_
  (refine jd (t := 30) B ?_; clear B; intro b_r1 wn zb zd r1 za zf zk B; replace rs := rs.be za; replace pc := pc.be za)
  refine z7 1 ?_; go_upto_region 1 with fail
  refine qz 1 ?_
  refine qe B (zE func16) (c := yi _ s true _ rs hn HV.out) ?_; clear B; intro wn za zf zg B
  replace r1 := r1.be za
  replace pc := pc.be za; refine z7 1 ?_; go_upto_region 3 with fail
  refine qz 1 ?_
  refine xz (zE func58) (c := zdg _ s _) (h := ?_); rintro e wn ⟨bw, rfl, hbw, r9, za⟩; obtain ⟨zf, zg, B⟩ := zM B za
  replace pc := pc.be za
  refine ⟨_, rfl, ?_⟩; simp only [zn]; refine xz (zE func57) (c := Ku s HVS.out g o c bw _ r9 hc pc) (h := ?_); rintro e wn ⟨a5, c5, rfl, od5, za⟩; obtain ⟨zf, zg, B⟩ := zM B za; replace od5 := od5.mono (show w.heap.size ≤ _ from by omega); refine ⟨_, rfl, ?_⟩; simp only [zn]; refine z7 1 ?_; rw [HL.out] at *; go_wp2; go_ret; exact ⟨_, _, rfl, od5, B⟩
def xN (w : World) : Prop := 0 < w.heap.size ∧ ∀ j, j < 4 → w.cell? ⟨0, j, none⟩ = (jP Q5)[j]?
section
variable {w w' : World}
theorem xN.lt (h : xN w) : 0 < w.heap.size := h.1
theorem xN.of_eq (h : xN w) (e : w'.heap[0]? = w.heap[0]?) : xN w' := by
 refine ⟨?_, fun j hj => ?_⟩
 ·have := h.1
  rcases Nat.lt_or_ge 0 w'.heap.size with k | k
  ·exact k
  ·rw [Array.getElem?_eq_none k, Array.getElem?_eq_getElem this] at e
   cases e
 ·rw [World.cell?_of_block (w := w) e]
  exact h.2 j hj
theorem xN.be (h : xN w) (hb : Below w.heap.size w w') : xN w' := h.of_eq (hb.block _ h.lt)
theorem xN.cg {w w' : World} (h : xN w) {zc : Nat} (e : qY zc w w') (hn : 0 ≠ zc := by omega) : xN w' := h.of_eq (e.block _ h.lt hn)
theorem zep (h : xN w) : ∀ w', (∃ u, w' = ov w u) → xN w' := by
 rintro w' ⟨u, rfl⟩
 exact h.be (ji w u)
theorem Qf (h : xN w) : (Instr.loadAt 38 (.pointer (some ⟨0, 0, none⟩))).run Tryz.prog w = .ok (.agg (jP Q5)) w :=
 x9 isAgg38 (by kernel_rfl) (fun j hj => by rw [Nat.zero_add]; exact h.2 j hj)
end
theorem zbH (l : List Db) {k : Nat} {d : Db} (h : l[k]? = some d) : JD (l.take (k + 1)) = if 0 < d.r then yx (JD (l.take k)) (kZ d) else JD (l.take k) := by
 unfold JD
 rw [List.take_add_one, h, List.foldl_append]
 rfl
theorem zcJ (v : Value) (s : jb) (q : Rc) (w : World) (lm : xN w) (rs : xh jf v s.pts w) (hn : s.pts.length ≤ 17592186044416) (e : zgP s = q) : Calls Tryz.prog 21 #[.agg (jg v s)] w fun e w' => e = .returned (.agg (jP q)) ∧ Below w.heap.size w w' := by
 have B := Below.refl w.heap.size w
 have hlm := lm.lt
 have HL := zo (zbO s)
 have HOK := zo (zdM s)
 obtain ⟨L, hL⟩ : ∃ L, yY s = L := ⟨_, rfl⟩
 have HE := zo (show y4 (JD L) Q5 = q from by rw [← e, ← hL]; rfl)
 have HLS := zo hL
 rw [hL] at HL HOK
 have hLn := HL.out
 clear e hL
 go_enter func21, ntmps21
 go_upto_region 0 with fail
 refine wp_region_lit ?_
 (refine jd (t := 30) B ?_; clear B; intro b_r1 wn zb zd r1 za zf zk B; replace lm := lm.be za; replace rs := rs.be za)
 (refine jH (t := 38) (zN _ _ rfl) B ?_; clear B; intro b_r2 wn zb zd r2 za zf zk B; replace r1 := r1.be za; replace lm := lm.be za; replace rs := rs.be za)
 refine wpList_nil ?_
 go_upto_region 1 with fail
 refine wp_region_lit ?_
 (refine jH (t := 38) (zN _ _ rfl) B ?_; clear B; intro b_r3 wn zb zd r3 za zf zk B; replace r1 := r1.be za; replace r2 := r2.be za; replace lm := lm.be za; replace rs := rs.be za)
 refine wpList_nil ?_
 have k1 : b_r2 < b_r3 := by have := r2.lt; omega
 have k2 : w.heap.size ≤ b_r2 := by omega
 obtain ⟨b0, hb0⟩ : ∃ b0, b0 = wn.heap.size := ⟨_, rfl⟩
 have k3 : b_r3 < b0 := by have := r3.lt; omega
 have HB0 := zo hb0
 clear hb0
 go_upto_region 2 with fail
 refine qz 1 ?_
 refine xz (zE func19) (c := Jr _ s L _ rs hn HLS.out) (h := ?_)
 rintro e wn ⟨ad, cd, rfl, od, za⟩
 obtain ⟨zf, zg, B⟩ := zM B za
 replace r1 := r1.be za
 replace r2 := r2.be za
 replace r3 := r3.be za
 replace lm := lm.be za
 replace rs := rs.be za
 rw [← HB0.out] at od
 refine ⟨_, rfl, ?_⟩
 simp only [zn]
 refine j1 underlying35 ?_
 refine z7 1 ?_
 have k4 : b0 ≤ wn.heap.size := by have := HB0.out; omega
 clear rs r1
 go_wp2
 go_loopw [5, 9] (fun _ iv wr => ∃ (k : Nat) (A : Rc), k ≤ L.length ∧ iv = .int .i64 (k : Int) ∧ Hid (JD (L.take k) = A) ∧ Below w.heap.size w wr ∧ b0 ≤ wr.heap.size ∧ xN wr ∧ zw 38 wr b_r2 #[.int .i64 0, .int .i64 0, .int .i64 0, .int .i64 0] ∧ zw 38 wr b_r3 (jP A) ∧ qM kA b0 (.slice ad L.length cd) L wr) (fun _ iv _ => (L.length - intOf iv).toNat)
 case atStart => exact ⟨0, Rc.zero, by omega, rfl, zo rfl, B, k4, lm, r2, r3, od⟩
 case round =>
  clear B k4 lm r2 r3 od; obtain ⟨k, A, hk, rfl, HA, B, k4, lm, r2, r3, od⟩ := hrel; by_cases hkl : k < L.length
  ·have q1 : decide ((k : Int) < (L.length : Int)) = true := zQ (by omega)
   have q2 : decide (k < L.length) = true := zQ hkl; obtain ⟨g, o, rfl, pc⟩ := od.rs.at (by omega); have hp := ZY hkl; have OKD := zo (HOK.out _ (List.mem_of_getElem? hp)); have HST := zo (zbH L hp); rw [HA.out] at HST
   generalize hx1 : zbK L k = x1 at *
   clear hx1; obtain ⟨o1, o2, o3, o4, o5, o6⟩ := OKD.out; go_upto_region 3 with fail
   refine zS 1 ?_; have BW := B; have HOD := zo od; have hlo := od.rs; have B := Below.refl wr.heap.size wr; have hpcl := pc.lt; have hr2l := r2.lt; have hr3l := r3.lt; have hlml := lm.lt; clear hlo; go_upto_region 4 with fail
   refine wp_region_lit ?_; refine jD 2 ?_; repeat (first | go_big_quiet_skip | (go_big_quiet_want; first | ((first | refine zq (fun w hw => (qD pc w hw).load isAgg45 hp) ?_ | refine qB ?_ | refine qC ?_); simp only [zn]; go_big_quiet_on) | (go_big_quiet_op; go_big_quiet_on)))
   refine wpQuiet_nil ?_
   (refine jH (t := 45) (y9 _ _ rfl) B ?_; clear B; intro b_d5 wn zb zd d5 za zf zk B; replace r2 := r2.be za; replace r3 := r3.be za; replace lm := lm.be za)
   (refine qZ (hone := (by simp [jP, kA, Value.oneCell'])) d5 B ?_; clear d5 B; intro wn d5 ze zf zg B; replace r2 := r2.cg ze; replace r3 := r3.cg ze; replace lm := lm.cg ze)
   refine wpList_nil ?_; replace d5 : zw 45 _ b_d5 (kA.enc x1) := d5; replace od := HOD.out.be B; have B0 := BW.trans (B.mono BW.size); clear B; have B := B0; clear B0 BW; have k5 : b0 ≤ wn.heap.size := by omega
   by_cases hr : 0 < x1.r
   ·have q3 : decide (0 < x1.r) = true := zQ hr
    rw [if_pos hr] at HST; obtain ⟨qs, hqs⟩ : ∃ q, kZ x1 = q := ⟨_, rfl⟩; obtain ⟨A2, hA2⟩ : ∃ q, yx A qs = q := ⟨_, rfl⟩; rw [hqs, hA2] at HST; have HQS := zo hqs; have HA2 := zo hA2; clear hqs hA2; go_upto_region 5 with fail
    refine zS 3 ?_; go_upto_region 6 with fail
    refine zA 4 [(2, zF ?v1_2), (3, zF ?v1_3)] (by kernel_rfl) (by kernel_rfl) (by kernel_rfl) ?_
    rotate_left 2
    simp only [jS, Nat.reduceAdd]; refine vi 2 ?_
    refine zcB ?_ ?_
    ·intro wn za hE Kx hKx
     obtain ⟨zf, zg, B⟩ := zM B za
     replace r2 := r2.be za
     replace r3 := r3.be za
     replace lm := lm.be za
     replace d5 := d5.be za
     replace od := od.be za
     refine zcF func62 ?_
     refine (kO x1 qs wn (by omega) (by omega) (by omega) HQS.out).mono ?_; rintro e wm ⟨rfl, zl⟩; refine ⟨_, rfl, ?_⟩; have hz := hKx () wm trivial zl
     dsimp only [zF] at hz
     exact hz
    rintro ⟨⟩
    dsimp only [zF]
    simp only [zn]; refine zcB ?_ ?_
    ·intro wn za hE Kx hKx
     obtain ⟨zf, zg, B⟩ := zM B za
     replace r2 := r2.be za
     replace r3 := r3.be za
     replace lm := lm.be za
     replace d5 := d5.be za
     replace od := od.be za
     refine zcF func61 ?_
     refine (zc5 A qs A2 wn HA2.out).mono ?_; rintro e wm ⟨rfl, zl⟩; refine ⟨_, rfl, ?_⟩; have hz := hKx () wm trivial zl
     dsimp only [zF] at hz
     exact hz
    rintro ⟨⟩
    dsimp only [zF]
    simp only [zn]; refine qi ?_; intro wn za hE; obtain ⟨zf, zg, B⟩ := zM B za
    replace r2 := r2.be za
    replace r3 := r3.be za
    replace lm := lm.be za
    replace d5 := d5.be za
    replace od := od.be za
    clear hE; try simp only [List.drop_succ_cons, List.drop_zero]
    go_wp2_with (first | (refine qZ (hone := (by simp [jP, kA, Value.oneCell'])) r3 B ?_; clear r3 B; intro wn r3 ze zf zg B; replace od := od.chg ze (by omega); replace r2 := r2.cg ze; replace lm := lm.cg ze) | fail)
    refine zI.normal ?_; replace r3 : zw 38 _ b_r3 (jP A2) := r3; go_upto_region 7 with fail
    refine zS 2 ?_; go_wp2; go_roundw
    case rel => exact ⟨k + 1, A2, by omega, by go_num, HST, B, by omega, lm, r2, r3, od⟩
    case measure => simp [intOf]; omega
   ·have q3 : decide (0 < x1.r) = false := zB hr
    rw [if_neg hr] at HST; go_upto_region 5 with fail
    refine zS 3 ?_; go_upto_region 7 with fail
    refine zS 2 ?_; go_wp2; go_roundw
    case rel => exact ⟨k + 1, A, by omega, by go_num, HST, B, k5, lm, r2, r3, od⟩
    case measure => simp [intOf]; omega
  ·have q1 : decide ((k : Int) < (L.length : Int)) = false := zB (by omega)
   have q2 : decide (k < L.length) = false := zB hkl; have HF := zo (show y4 A Q5 = q from by rw [← HE.out, ← HA.out, List.take_of_length_le (by omega)]); go_upto_region 3 with fail
   refine zS 1 ?_; go_upto_region 8 with fail
   refine wp_region_lit ?_; refine jD 2 ?_
   repeat (first | go_big_quiet_skip | (go_big_quiet_want; first | ((first | refine zq (fun w hw => Qf (zep lm w hw)) ?_ | refine qB ?_ | refine qC ?_); simp only [zn]; go_big_quiet_on) | (go_big_quiet_op; go_big_quiet_on)))
   refine wpQuiet_nil ?_; refine qe B (zE func46) (c := Kz A Q5 q _ HF.out) ?_; clear B; intro wn za zf zg B
   replace r2 := r2.be za
   (refine qZ (hone := (by simp [jP, kA, Value.oneCell'])) r2 B ?_; clear r2 B; intro wn r2 ze zf zg B)
   refine wpList_nil ?_; first | (refine qO r2 ?_) | (go_step; refine qO r2 ?_) | (go_step; go_step; refine qO r2 ?_) | (go_step; go_step; go_step; refine qO r2 ?_) | (go_step; go_step; go_step; go_step; refine qO r2 ?_) | (go_step; go_step; go_step; go_step; go_step; refine qO r2 ?_)
   exact ⟨rfl, B⟩
theorem VP (w : World) (o : Oper) (ho : o.op = .buildSlice 26 0 #[]) (ev : Operand → Value) : (execOp ev o).run Tryz.prog w = .ok (.value (.slice (some ⟨w.heap.size, 0, none⟩) 0 0)) (w.alloc (.cells #[] 43)) := by
 obtain ⟨d, p, t, ps, af, gd⟩ := o
 simp only at ho
 subst ho
 kernel_rfl
theorem Xw {ops : Array Oper} {rest : List Oper} {o : Oper} {a : Act} {w : World} {Q : Exit → Act → World → Prop} (hg : o.guard = none) (ho : o.op = .buildSlice 26 0 #[])
  (h : ∀ b w', w.heap.size ≤ b → b ≤ w.heap.size → qM jf b (.slice (some ⟨b, 0, none⟩) 0 0) [] w' → Below b w w' → w'.heap.size = b + 1 → wpList Tryz.prog ops Q rest (a.put o.dst (.slice (some ⟨b, 0, none⟩) 0 0)) w') : wpList Tryz.prog ops Q (o :: rest) a w :=
 wpList_plain hg fun K hK => by
  unfold Oper.wp; rw [VP w o ho]; exact hK _ _ (h _ _ (Nat.le_refl _) (Nat.le_refl _) ⟨rfl, .inr ⟨w.heap.size, 0, #[], rfl, Nat.le_refl _, by rw [zJ, if_pos rfl], Nat.le_refl _, by unfold maxLen; omega, rfl, rfl⟩⟩ ((Below.refl _ _).alloc (Nat.le_refl _) _) (World.size_alloc _ _))
theorem VO (w : World) (o : Oper) (ho : o.op = .buildSlice 35 0 #[]) (ev : Operand → Value) : (execOp ev o).run Tryz.prog w = .ok (.value (.slice (some ⟨w.heap.size, 0, none⟩) 0 0)) (w.alloc (.cells #[] 45)) := by
 obtain ⟨d, p, t, ps, af, gd⟩ := o
 simp only at ho
 subst ho
 kernel_rfl
theorem uT {ops : Array Oper} {rest : List Oper} {o : Oper} {a : Act} {w : World} {Q : Exit → Act → World → Prop} (hg : o.guard = none) (ho : o.op = .buildSlice 35 0 #[])
  (h : ∀ b w', w.heap.size ≤ b → b ≤ w.heap.size → qM kA b (.slice (some ⟨b, 0, none⟩) 0 0) [] w' → Below b w w' → w'.heap.size = b + 1 → wpList Tryz.prog ops Q rest (a.put o.dst (.slice (some ⟨b, 0, none⟩) 0 0)) w') : wpList Tryz.prog ops Q (o :: rest) a w :=
 wpList_plain hg fun K hK => by
  unfold Oper.wp; rw [VO w o ho]; exact hK _ _ (h _ _ (Nat.le_refl _) (Nat.le_refl _) ⟨rfl, .inr ⟨w.heap.size, 0, #[], rfl, Nat.le_refl _, by rw [zJ, if_pos rfl], Nat.le_refl _, by unfold maxLen; omega, rfl, rfl⟩⟩ ((Below.refl _ _).alloc (Nat.le_refl _) _) (World.size_alloc _ _))
def JO (s : jb) (k : Nat) : List Db := (List.range k).map (xA s)
theorem zbN (s : jb) (k : Nat) : (JO s k).length = k := by unfold JO; rw [List.length_map, List.length_range]
theorem Wz (s : jb) (k : Nat) : JO s (k + 1) = JO s k ++ [xA s k] := by
 unfold JO
 rw [List.range_succ, List.map_append]
 rfl
theorem zbM {s : jb} (h : s.pts.length = 1) : xS s = [xA s 0] := by
 unfold xS xu
 rw [if_pos h]
 rfl
theorem ZS (v : Value) (s : jb) (L : List Db) (w : World) (rs : xh jf v s.pts w) (hn : s.pts.length ≤ 17592186044416) (e : yY s = L) : Calls Tryz.prog 20 #[.agg (jg v s)] w fun e w' => ∃ a cp, e = .returned (.slice a L.length cp) ∧ qM kA w.heap.size (.slice a L.length cp) L w' ∧ Below w.heap.size w w' := by
 have B := Below.refl w.heap.size w
 obtain ⟨a, c, rfl, hc⟩ := rs.len
 cases hv : jT s with
 | false =>
  obtain rfl : L = [] := by rw [← e]; unfold yY; rw [hv]; rfl
  have HV := zo hv; clear hv e; go_enter func20, ntmps20
  go_upto_region 0 with fail
  refine wp_region_lit ?_
  (refine jd (t := 30) B ?_; clear B; intro b_r1 wn zb zd r1 za zf zk B; replace rs := rs.be za)
  refine z7 1 ?_; go_upto_region 1 with fail
  refine wp_region_lit ?_
  (refine uT rfl rfl (kn B ?_); clear B; intro b_od wn zb zd od za zf zk B; replace r1 := r1.be (za.mono zb); replace rs := rs.be (za.mono zb); simp only [zn])
  refine z7 1 ?_; have hbo : w.heap.size ≤ b_od := by omega
  go_upto_region 2 with fail
  refine qz 1 ?_
  refine qe B (zE func17) (c := wo _ s false _ rs hn HV.out) ?_; clear B; intro wn za zf zg B
  replace r1 := r1.be za
  replace rs := rs.be za
  replace od := od.be za; refine z7 1 ?_; go_upto_region 3 with fail
  refine zS 2 ?_; go_upto_region 4 with fail
  refine zS 2 ?_; go_wp2; go_ret; exact ⟨_, _, rfl, od.mono hbo, B⟩
 | true =>
  have hL : xS s = L := by rw [← e]; unfold yY; rw [hv]; rfl
  have HLL := zo hL; have HVS := zo ((xq s).1 hv); have HV := zo hv; have hl1 := HVS.out.l1; have hl2 := HVS.out.l2; have hs1 := HVS.out.s1; have hs2 := HVS.out.s2; have hr1 := HVS.out.r1; have hr2 := HVS.out.r2; have hq1 := HVS.out.p1; have hq2 := HVS.out.p2; obtain ⟨g, o, rfl, pc⟩ := rs.at (by omega); have HRS := zo rs; have hgl := pc.lt; have q0 : decide (0 < s.pts.length) = true := zQ (by omega); have q0' : decide ((0 : Int) < (s.pts.length : Int)) = true := zQ (by omega); clear hv e hL; go_enter func20, ntmps20
  go_upto_region 0 with fail
  refine wp_region_lit ?_
  (refine jd (t := 30) B ?_; clear B; intro b_r1 wn zb zd r1 za zf zk B; replace pc := pc.be za; replace rs := rs.be za)
  refine z7 1 ?_; go_upto_region 1 with fail
  refine wp_region_lit ?_
  (refine uT rfl rfl (kn B ?_); clear B; intro b_od wn zb zd od za zf zk B; replace r1 := r1.be (za.mono zb); replace pc := pc.be (za.mono zb); replace rs := rs.be (za.mono zb); simp only [zn])
  refine z7 1 ?_; have hbo : w.heap.size ≤ b_od := by omega
  have hbr : b_r1 < b_od := by have := r1.lt; omega
  have hwr : w.heap.size ≤ b_r1 := by omega
  go_upto_region 2 with fail
  refine qz 1 ?_
  refine qe B (zE func17) (c := wo _ s true _ rs hn HV.out) ?_; clear B; intro wn za zf zg B
  replace r1 := r1.be za
  replace pc := pc.be za
  replace rs := rs.be za
  replace od := od.be za; refine z7 1 ?_; go_upto_region 3 with fail
  refine zS 2 ?_; have hon : b_od < wn.heap.size := by omega
  go_upto_region 5 with fail
  by_cases h1 : s.pts.length = 1
  ·have q1 : ((s.pts.length : Int) == 1) = true := by rw [h1]; rfl
   have q1' : (s.pts.length == 1) = true := by rw [h1]; rfl
   have hp0 := qG (l := s.pts) (show 0 < s.pts.length by omega); obtain ⟨_, _, _, _, hpp1, hpp2⟩ := HVS.out.pt (show 0 < s.pts.length by omega); obtain ⟨R, hR⟩ : ∃ R, zG (s.rad * (jc s.pts 0).p) 255 = R := ⟨_, rfl⟩; have HD := zo (show L = [⟨(jc s.pts 0).x, (jc s.pts 0).y, R⟩] from by rw [← HLL.out, zbM h1]; unfold xA; rw [if_pos h1]; unfold zdK; rw [hR])
   have HR := zo hR; clear hR; refine qz 2 ?_
   refine j1 underlying26 ?_; refine z7 1 ?_; go_upto_region 6 with fail
   have lx_r1 := r1.lt
   have lx_pc := pc.lt
   have lx_od := od.lt
   refine zA 19 [(17, zF ?v1_17), (18, bsG (wn.heap.size) 45 (kA.enc ⟨(jc s.pts 0).x, (jc s.pts 0).y, R⟩))] (by kernel_rfl) (by kernel_rfl) (by kernel_rfl) ?_
   rotate_left 1
   simp only [jS, Nat.reduceAdd]; refine vV 17 ?_
   repeat (first | go_big_quiet_skip | (go_big_quiet_want; first | ((first | refine zq (fun w hw => qt (zeY (qD pc w hw) hp0)) ?_ | refine zq (fun w hw => qt (zeZ (qD pc w hw) hp0)) ?_ | refine zq (fun w hw => qt (zhT (qD pc w hw) hp0)) ?_ | refine qB ?_ | refine qC ?_); simp only [zn]; go_big_quiet_on) | (go_big_quiet_op; go_big_quiet_on)))
   refine wpQuiet_nil ?_; refine zcB ?_ ?_
   ·intro wn za hE Kx hKx
    obtain ⟨zf, zg, B⟩ := zM B za
    replace r1 := r1.be za
    replace pc := pc.be za
    replace od := od.be za
    refine zcF func59 ?_
    refine (zgO _ s (jc s.pts 0).x (jc s.pts 0).y (jc s.pts 0).p R wn ⟨by omega, hr2⟩ ⟨hpp1, hpp2⟩ HR.out).mono ?_; rintro e wm ⟨rfl, zl⟩; refine ⟨_, rfl, ?_⟩; have hz := hKx () wm trivial zl
    dsimp only [zF] at hz
    exact hz
   rintro ⟨⟩
   dsimp only [zF]
   simp only [zn]; refine zcB ?_ ?_
   ·intro wn za hE Kx hKx
    obtain ⟨zf, zg, B⟩ := zM B za
    replace r1 := r1.be za
    replace pc := pc.be za
    replace od := od.be za
    refine Z5 (E := kA) _ rfl ⟨(jc s.pts 0).x, (jc s.pts 0).y, R⟩ rfl (by omega) ?_; intro b wm h1 h2 ht zl zm; exact hKx b wm ⟨Nat.le_trans za.size h1, ht⟩ (zl.mono h1)
   rintro b_s40
   dsimp only [zF, bsG]
   simp only [zn]; refine qi ?_; intro wn za hE; obtain ⟨zf, zg, B⟩ := zM B za
   replace r1 := r1.be za
   replace pc := pc.be za
   replace od := od.be za
   obtain ⟨hge_s40, s40⟩ : _ ∧ zw _ _ _ _ := hE 18; clear hE; try simp only [List.drop_succ_cons, List.drop_zero]
   go_wp2_with (first | (at_builtin; refine jA rfl _ _ rfl _ _ rfl rfl od ((xh.one s40)) (by simp only [List.length_append, List.length_cons, List.length_nil]; omega) (by omega) ?_; intro v_od wn ht za; have zf := B.size; have hbz := za.size; replace B := B.trans (za.mono (by omega)); clear od; replace r1 := r1.of_eq (za.block _ (by omega)); have od := ht; clear ht; obtain ⟨a_od, c_od, hv, hco⟩ := od.len; (try simp only [List.length_append, List.length_cons, List.length_nil, Nat.zero_add] at hv hco); subst hv; simp only [zn]) | fail)
   refine zI.normal ?_; go_wp2; go_ret; rw [HD.out]; exact ⟨_, _, rfl, od.mono hbo, B⟩
  ·have q1 : ((s.pts.length : Int) == 1) = false := by simp; omega
   have q1' : (s.pts.length == 1) = false := by simp; omega
   obtain ⟨tt, htt⟩ : ∃ t, yn s.pts = t := ⟨_, rfl⟩; have HTT := zo htt; have htb := HVS.out.tot; rw [htt] at htb; clear htt; refine qz 2 ?_
   refine j1 underlying26 ?_; refine z7 1 ?_; go_upto_region 7 with fail
   refine qz 2 ?_
   refine qe B (zE func56) (c := zax _ s.pts tt _ rs hl2 HVS.out.ok HTT.out) ?_; clear B; intro wn za zf zg B
   replace r1 := r1.be za
   replace pc := pc.be za
   replace rs := rs.be za
   replace od := od.be za; refine z7 1 ?_; go_upto_region 8 with fail
   refine zS 3 ?_; have hon : b_od < wn.heap.size := by omega
   clear rs; go_wp2; go_loopw [3, 6, 7, 8, 9, 10, 11] (fun ov dv _ _ _ _ _ wr => ∃ (k cp : Nat) (ad : Option Addr) (P : List Db) (d : Int), k ≤ xu s ∧ dv = .int .i64 d ∧ ov = .slice ad P.length cp ∧ Hid (d = s.pha + k * s.spa) ∧ (0 ≤ d ∧ d ≤ 5300000) ∧ Hid (JO s k = P) ∧ qM kA b_od (.slice ad P.length cp) P wr ∧ Below w.heap.size w wr ∧ b_od < wr.heap.size ∧ zw 30 wr b_r1 (jg (.slice (some ⟨g, o, none⟩) s.pts.length c) s) ∧ zH jf g o s.pts wr) (fun _ dv _ _ _ _ _ _ => (tt - intOf dv).toNat)
   case atStart => exact ⟨0, 0, _, [], s.pha, by omega, rfl, rfl, zo (by show s.pha = s.pha + ((0 : Nat) : Int) * s.spa; omega), by omega, zo rfl, od, B, hon, r1, pc⟩
   case round =>
    clear B hon od r1 pc; obtain ⟨k, cp, ad, P, d, hk, rfl, rfl, HD, hd, HP, od, B, hon, r1, pc⟩ := hrel; have hPl : P.length ≤ 1024 := by rw [← HP.out, zbN]; have := JN HVS.out; omega
    by_cases hdt : d < tt
    ·have q2 : decide (d < tt) = true := zQ hdt
     have hkc : k < xu s := (Je HVS.out h1).2 (by rw [HTT.out, ← HD.out]; exact hdt)
     have hp0 := qG (l := s.pts) (show 0 < s.pts.length by omega); have hp1 := qG (l := s.pts) (show 1 < s.pts.length by omega); have q3 : decide (1 < s.pts.length) = true := zQ (by omega); have q3' : decide ((1 : Int) < (s.pts.length : Int)) = true := zQ (by omega); have A1 := zo (HVS.out.pt (show 0 < s.pts.length by omega)); have A2 := zo (HVS.out.pt (show 1 < s.pts.length by omega)); obtain ⟨L0, hL0⟩ : ∃ L, kt (jc s.pts 0) (jc s.pts 1) = L := ⟨_, rfl⟩; have HL0 := zo hL0; have hbd : d + s.spa ≤ 5300000 := by
      have e1 := zew HVS.out (show k + 1 ≤ xu s by omega); have e2 := J4 s k; have e3 := HD.out; omega
     have HD2 := zo (show d + s.spa = s.pha + ((k + 1 : Nat) : Int) * s.spa from by rw [J4, HD.out]); clear hL0; go_upto_region 9 with fail
     refine zS 3 ?_; go_upto_region 11 with fail
     refine zS 1 ?_; go_upto_region 12 with fail
     refine zS 2 ?_; go_upto_region 13 with fail
     have lx_r1 := r1.lt
     have lx_pc := pc.lt
     have lx_od := od.lt
     refine zA 10 [(8, zF ?v2_8)] (by kernel_rfl) (by kernel_rfl) (by kernel_rfl) ?_
     rotate_left 1
     simp only [jS, Nat.reduceAdd]; refine vV 8 ?_
     repeat (first | go_big_quiet_skip | (go_big_quiet_want; first | ((first | refine zq (fun w hw => (qD pc w hw).load isAgg43 hp0) ?_ | refine zq (fun w hw => (qD pc w hw).load isAgg43 hp1) ?_ | refine qB ?_ | refine qC ?_); simp only [zn]; go_big_quiet_on) | (go_big_quiet_op; go_big_quiet_on)))
     refine wpQuiet_nil ?_; refine zcB ?_ ?_
     ·intro wn za hE Kx hKx
      obtain ⟨zf, zg, B⟩ := zM B za
      replace r1 := r1.be za
      replace pc := pc.be za
      replace od := od.be za
      refine zcF func60 ?_
      refine (Jy (jc s.pts 0) (jc s.pts 1) L0 wn A1.out A2.out HL0.out).mono ?_; rintro e wm ⟨rfl, zl⟩; refine ⟨_, rfl, ?_⟩; have hz := hKx () wm trivial zl
      dsimp only [zF] at hz
      exact hz
     rintro ⟨⟩
     dsimp only [zF]
     simp only [zn]; refine vi 1 ?_; refine qi ?_; intro wn za hE; obtain ⟨zf, zg, B⟩ := zM B za
     replace r1 := r1.be za
     replace pc := pc.be za
     replace od := od.be za
     clear hE; try simp only [List.drop_succ_cons, List.drop_zero]
     refine zI.normal ?_; have hon : b_od < wn.heap.size := by omega
     clear A1 A2 hp0 hp1 q3 q3'; go_wp2; go_loopw [7, 8, 9] (fun iv ev lv wr => ∃ (j : Nat) (lf L : Int), j + 1 < s.pts.length ∧ iv = .int .i64 (j : Int) ∧ ev = .int .i64 lf ∧ lv = .int .i64 L ∧ Hid (lf = d - jK s.pts j) ∧ (0 ≤ lf ∧ lf ≤ 5300000) ∧ Hid (kt (jc s.pts j) (jc s.pts (j + 1)) = L) ∧ qM kA b_od (.slice ad P.length cp) P wr ∧ Below w.heap.size w wr ∧ b_od < wr.heap.size ∧ zw 30 wr b_r1 (jg (.slice (some ⟨g, o, none⟩) s.pts.length c) s) ∧ zH jf g o s.pts wr) (fun iv _ _ _ => (s.pts.length - intOf iv).toNat)
     case atStart => exact ⟨0, d, L0, by omega, rfl, rfl, rfl, zo (by show d = d - 0; omega), hd, HL0, od, B, hon, r1, pc⟩
     case round =>
      clear B hon od r1 pc; obtain ⟨j, lf, L2, hj, rfl, rfl, rfl, HLF, hlf, HL, od, B, hon, r1, pc⟩ := hrel; have A1 := zo (HVS.out.pt (show j < s.pts.length by omega)); have A2 := zo (HVS.out.pt hj); have hLb := Z3 A1.out A2.out; have hLn := YtepelndbbhdofaaGreatDoor.u9 (jc s.pts j) (jc s.pts (j + 1)); have HPR := zo (show jK s.pts (j + 1) = jK s.pts j + kt (jc s.pts j) (jc s.pts (j + 1)) from rfl); rw [HL.out] at hLb hLn HPR; by_cases zh : L2 ≤ lf
      ·have q4 : decide (L2 ≤ lf) = true := zQ zh
       have hj2 : j + 1 + 1 < s.pts.length := by
        rcases Nat.lt_or_ge (j + 1 + 1) s.pts.length with k1 | k1
        ·exact k1
        ·have e1 : yn s.pts = jK s.pts (j + 1) := by unfold yn; rw [show s.pts.length - 1 = j + 1 by omega]
         have e2 := HPR.out; have e3 := HLF.out; have e4 := HTT.out; omega
       have hp1 := qG (l := s.pts) hj; have hp2 := qG (l := s.pts) hj2; have A3 := zo (HVS.out.pt hj2); obtain ⟨L3, hL3⟩ : ∃ L, kt (jc s.pts (j + 1)) (jc s.pts (j + 1 + 1)) = L := ⟨_, rfl⟩; have HL3 := zo hL3; have HN := zo (show lf - L2 = d - jK s.pts (j + 1) from by rw [HPR.out, HLF.out]; omega)
       have q5 : decide (j + 1 < s.pts.length) = true := zQ hj; have q5' : decide ((j : Int) + 1 < (s.pts.length : Int)) = true := zQ (by omega); have q6 : decide (j + 1 + 1 < s.pts.length) = true := zQ hj2; have q6' : decide ((j : Int) + 1 + 1 < (s.pts.length : Int)) = true := zQ (by omega); clear hL3
       generalize hx1 : jc s.pts (j + 1) = x1 at *
       generalize hx2 : jc s.pts (j + 1 + 1) = x2 at *
       go_upto_region 14 with fail
       refine zS 3 ?_; go_upto_region 15 with fail
       refine zS 4 ?_; go_upto_region 16 with fail
       refine zS 3 ?_; go_upto_region 17 with fail
       have HX1 := zo hx1; have HX2 := zo hx2; clear hx1 hx2; try have lx_r1 := r1.lt
       have lx_pc := pc.lt
       have lx_od := od.lt
       refine zA 13 [(11, zF ?v3_11)] (by kernel_rfl) (by kernel_rfl) (by kernel_rfl) ?_
       rotate_left 1
       simp only [jS, Nat.reduceAdd]; refine vV 11 ?_
       repeat (first | go_big_quiet_skip | (go_big_quiet_want; first | ((first | refine zq (fun w hw => (qD pc w hw).load isAgg43 hp1) ?_ | refine zq (fun w hw => (qD pc w hw).load isAgg43 hp2) ?_ | refine qB ?_ | refine qC ?_); simp only [zn]; go_big_quiet_on) | (go_big_quiet_op; go_big_quiet_on)))
       refine wpQuiet_nil ?_; refine zcB ?_ ?_
       ·intro wn za hE Kx hKx
        obtain ⟨zf, zg, B⟩ := zM B za
        replace r1 := r1.be za
        replace pc := pc.be za
        replace od := od.be za
        refine zcF func60 ?_
        refine (Jy x1 x2 L3 wn A2.out A3.out HL3.out).mono ?_; rintro e wm ⟨rfl, zl⟩; refine ⟨_, rfl, ?_⟩; have hz := hKx () wm trivial zl
        dsimp only [zF] at hz
        exact hz
       rintro ⟨⟩
       dsimp only [zF]
       simp only [zn]; refine vi 1 ?_; refine qi ?_; intro wn za hE; obtain ⟨zf, zg, B⟩ := zM B za
       replace r1 := r1.be za
       replace pc := pc.be za
       replace od := od.be za
       clear hE; try simp only [List.drop_succ_cons, List.drop_zero]
       refine zI.normal ?_; have hon : b_od < wn.heap.size := by omega
       go_wp2; go_roundw
       case rel => exact ⟨j + 1, lf - L2, L3, hj2, by go_num, rfl, rfl, HN, by omega, zo (by rw [HX1.out, HX2.out]; exact HL3.out), od, B, hon, r1, pc⟩
       case measure => simp [intOf]; omega
      ·have q4 : decide (L2 ≤ lf) = false := zB zh
       have hp0 := qG (l := s.pts) (show j < s.pts.length by omega); have hp1 := qG (l := s.pts) hj; have q5 : decide (j < s.pts.length) = true := zQ (by omega); have q5' : decide ((j : Int) < (s.pts.length : Int)) = true := zQ (by omega); have q6 : decide (j + 1 < s.pts.length) = true := zQ hj; have q6' : decide ((j : Int) + 1 < (s.pts.length : Int)) = true := zQ (by omega); have HDK := zo (show xA s k = zbL s (jc s.pts j) (jc s.pts (j + 1)) lf L2 from by
        have e1 := HLF.out; have e2 := HPR.out; have e3 := HD.out; have := zaG (s := s) (k := k) (j := j) h1 (by omega) (by omega) (by omega); rw [this, HL.out, ← e3, ← e1])
       clear HL HPR
       generalize hx1 : jc s.pts j = x1 at *
       generalize hx2 : jc s.pts (j + 1) = x2 at *
       clear hx1 hx2; obtain ⟨a1, a2, a3, a4, a5, a6⟩ := A1.out; obtain ⟨c1, c2, c3, c4, c5, c6⟩ := A2.out; have hlt2 : lf < L2 := by omega
       obtain ⟨m1, m2⟩ := QA (M := 5300000) (p := x2.x - x1.x) (q := lf) (by omega) (by omega); obtain ⟨m3, m4⟩ := QA (M := 5300000) (p := x2.y - x1.y) (q := lf) (by omega) (by omega); obtain ⟨m5, m6⟩ := QA (M := 5300000) (p := x2.p - x1.p) (q := lf) (by omega) (by omega); obtain ⟨b1, b2⟩ := wX (a := x1.x) (b := x2.x) hlf.1 hlt2 ⟨a1, a2⟩ ⟨c1, c2⟩; obtain ⟨b3, b4⟩ := wX (a := x1.y) (b := x2.y) hlf.1 hlt2 ⟨a3, a4⟩ ⟨c3, c4⟩; obtain ⟨b5, b6⟩ := wX (a := x1.p) (b := x2.p) hlf.1 hlt2 ⟨a5, a6⟩ ⟨c5, c6⟩; obtain ⟨qx, hqx⟩ : ∃ q, zG ((x2.x - x1.x) * lf) L2 = q := ⟨_, rfl⟩; obtain ⟨qy, hqy⟩ : ∃ q, zG ((x2.y - x1.y) * lf) L2 = q := ⟨_, rfl⟩; obtain ⟨qp, hqp⟩ : ∃ q, zG ((x2.p - x1.p) * lf) L2 = q := ⟨_, rfl⟩; rw [hqx] at b1 b2; rw [hqy] at b3 b4; rw [hqp] at b5 b6; obtain ⟨R, hR⟩ : ∃ R, zG (s.rad * (x1.p + qp)) 255 = R := ⟨_, rfl⟩; have HE := zo (show JO s (k + 1) = P ++ [⟨x1.x + qx, x1.y + qy, R⟩] from by
        rw [Wz, HP.out, HDK.out]; show P ++ [(⟨x1.x + zG ((x2.x - x1.x) * lf) L2, x1.y + zG ((x2.y - x1.y) * lf) L2, zG (s.rad * (x1.p + zG ((x2.p - x1.p) * lf) L2)) 255⟩ : Db)] = _
        rw [hqx, hqy, hqp, hR])
       have HQX := zo hqx; have HQY := zo hqy; have HQP := zo hqp; have HR := zo hR; clear hqx hqy hqp hR; go_upto_region 14 with fail
       refine zS 3 ?_; have BW := B; have HOD := zo od; have B := Below.refl wr.heap.size wr; have hr1l := r1.lt; have hpcl := pc.lt; go_upto_region 18 with fail
       refine wp_region_lit ?_; refine jD 5 ?_
       repeat (first | go_big_quiet_skip | (go_big_quiet_want; first | ((first | refine zq (fun w hw => (qD pc w hw).load isAgg43 hp0) ?_ | refine qB ?_ | refine qC ?_); simp only [zn]; go_big_quiet_on) | (go_big_quiet_op; go_big_quiet_on)))
       refine wpQuiet_nil ?_
       (refine jH (t := 43) (xn _ _ rfl) B ?_; clear B; intro b_x10 wn zb zd x10 za zf zk B; replace r1 := r1.be za; replace pc := pc.be za)
       (refine qZ (hone := (by simp [jf, Value.oneCell'])) x10 B ?_; clear x10 B; intro wn x10 ze zf zg B; replace r1 := r1.cg ze; replace pc := pc.cg ze)
       refine wpList_nil ?_; replace x10 : zw 43 _ b_x10 (jf.enc x1) := x10; have h10 := x10.lt; go_upto_region 19 with fail
       refine wp_region_lit ?_; refine jD 6 ?_
       repeat (first | go_big_quiet_skip | (go_big_quiet_want; first | ((first | refine zq (fun w hw => (qD pc w hw).load isAgg43 hp1) ?_ | refine qB ?_ | refine qC ?_); simp only [zn]; go_big_quiet_on) | (go_big_quiet_op; go_big_quiet_on)))
       refine wpQuiet_nil ?_
       (refine jH (t := 43) (xn _ _ rfl) B ?_; clear B; intro b_x11 wn zb zd x11 za zf zk B; replace r1 := r1.be za; replace pc := pc.be za; replace x10 := x10.be za)
       (refine qZ (hone := (by simp [jf, Value.oneCell'])) x11 B ?_; clear x11 B; intro wn x11 ze zf zg B; replace r1 := r1.cg ze; replace pc := pc.cg ze; replace x10 := x10.cg ze)
       refine wpList_nil ?_; replace x11 : zw 43 _ b_x11 (jf.enc x2) := x11; replace od := HOD.out.be B; have B0 := BW.trans (B.mono BW.size); clear B; have B := B0; clear B0 BW; have hon : b_od < wn.heap.size := by omega
       go_upto_region 20 with fail
       have lx_r1 := r1.lt
       have lx_pc := pc.lt
       have lx_od := od.lt
       refine zA 40 [(12, zF ?v4_12), (24, zF ?v4_24), (36, zF ?v4_36), (38, zF ?v4_38), (39, bsG (wn.heap.size) 45 (kA.enc ⟨x1.x + qx, x1.y + qy, R⟩))] (by kernel_rfl) (by kernel_rfl) (by kernel_rfl) ?_
       rotate_left 4
       simp only [jS, Nat.reduceAdd]; refine vi 12 ?_
       refine zcB ?_ ?_
       ·intro wn za hE Kx hKx
        obtain ⟨zf, zg, B⟩ := zM B za
        replace r1 := r1.be za
        replace pc := pc.be za
        replace x10 := x10.be za
        replace x11 := x11.be za
        replace od := od.be za
        refine zcF func23 ?_
        refine (ws ((x2.x - x1.x) * lf) L2 qx wn (by omega) (by omega) (by omega) (by omega) HQX.out).mono ?_; rintro e wm ⟨rfl, zl⟩; refine ⟨_, rfl, ?_⟩; have hz := hKx () wm trivial zl
        dsimp only [zF] at hz
        exact hz
       rintro ⟨⟩
       dsimp only [zF]
       simp only [zn]; refine vi 11 ?_
       refine zcB ?_ ?_
       ·intro wn za hE Kx hKx
        obtain ⟨zf, zg, B⟩ := zM B za
        replace r1 := r1.be za
        replace pc := pc.be za
        replace x10 := x10.be za
        replace x11 := x11.be za
        replace od := od.be za
        refine zcF func23 ?_
        refine (ws ((x2.y - x1.y) * lf) L2 qy wn (by omega) (by omega) (by omega) (by omega) HQY.out).mono ?_; rintro e wm ⟨rfl, zl⟩; refine ⟨_, rfl, ?_⟩; have hz := hKx () wm trivial zl
        dsimp only [zF] at hz
        exact hz
       rintro ⟨⟩
       dsimp only [zF]
       simp only [zn]; refine vi 11 ?_
       refine zcB ?_ ?_
       ·intro wn za hE Kx hKx
        obtain ⟨zf, zg, B⟩ := zM B za
        replace r1 := r1.be za
        replace pc := pc.be za
        replace x10 := x10.be za
        replace x11 := x11.be za
        replace od := od.be za
        refine zcF func23 ?_
        refine (ws ((x2.p - x1.p) * lf) L2 qp wn (by omega) (by omega) (by omega) (by omega) HQP.out).mono ?_; rintro e wm ⟨rfl, zl⟩; refine ⟨_, rfl, ?_⟩; have hz := hKx () wm trivial zl
        dsimp only [zF] at hz
        exact hz
       rintro ⟨⟩
       dsimp only [zF]
       simp only [zn]; refine vi 1 ?_; refine zcB ?_ ?_
       ·intro wn za hE Kx hKx
        obtain ⟨zf, zg, B⟩ := zM B za
        replace r1 := r1.be za
        replace pc := pc.be za
        replace x10 := x10.be za
        replace x11 := x11.be za
        replace od := od.be za
        refine zcF func59 ?_
        refine (zgO _ s (x1.x + qx) (x1.y + qy) (x1.p + qp) R wn ⟨by omega, hr2⟩ ⟨b5, b6⟩ HR.out).mono ?_; rintro e wm ⟨rfl, zl⟩; refine ⟨_, rfl, ?_⟩; have hz := hKx () wm trivial zl
        dsimp only [zF] at hz
        exact hz
       rintro ⟨⟩
       dsimp only [zF]
       simp only [zn]; refine zcB ?_ ?_
       ·intro wn za hE Kx hKx
        obtain ⟨zf, zg, B⟩ := zM B za
        replace r1 := r1.be za
        replace pc := pc.be za
        replace x10 := x10.be za
        replace x11 := x11.be za
        replace od := od.be za
        refine Z5 (E := kA) _ rfl ⟨x1.x + qx, x1.y + qy, R⟩ rfl (by omega) ?_; intro b wm h1 h2 ht zl zm; exact hKx b wm ⟨Nat.le_trans za.size h1, ht⟩ (zl.mono h1)
       rintro b_s134
       dsimp only [zF, bsG]
       simp only [zn]; refine qi ?_; intro wn za hE; obtain ⟨zf, zg, B⟩ := zM B za
       replace r1 := r1.be za
       replace pc := pc.be za
       replace x10 := x10.be za
       replace x11 := x11.be za
       replace od := od.be za
       obtain ⟨hge_s134, s134⟩ : _ ∧ zw _ _ _ _ := hE 39; clear hE; try simp only [List.drop_succ_cons, List.drop_zero]
       clear x10 x11; go_wp2_with (first | (at_builtin; refine jA rfl _ _ rfl _ _ rfl rfl od ((xh.one s134)) (by simp only [List.length_append, List.length_cons, List.length_nil]; omega) (by omega) ?_; intro v_od wn ht za; have zf := B.size; have hbz := za.size; replace B := B.trans (za.mono (by omega)); clear od; replace r1 := r1.of_eq (za.block _ (by omega)); have od := ht; clear ht; obtain ⟨a_od, c_od, hv, hco⟩ := od.len; (try simp only [List.length_append, List.length_cons, List.length_nil, Nat.zero_add] at hv hco); subst hv; simp only [zn]) | fail)
       refine zI.normal ?_; have r1 := r1; have hon : b_od < wn.heap.size := by omega
       replace pc := HRS.out.at (by omega); obtain ⟨g2, o2, e2, pc2⟩ := pc; obtain ⟨rfl, rfl⟩ : g = g2 ∧ o = o2 := by simpa using e2
       have pc := pc2.of_eq (B.block _ pc2.lt); clear e2 pc2; go_upto_region 10 with fail
       refine zS 5 ?_; go_wp2; go_roundw
       case rel => exact ⟨k + 1, _, _, P ++ [⟨x1.x + qx, x1.y + qy, R⟩], d + s.spa, by omega, rfl, by rw [List.length_append]; rfl, HD2, by omega, HE, by rw [List.length_append]; exact od, B, hon, r1, pc⟩
       case measure => simp [intOf]; omega
    ·have q2 : decide (d < tt) = false := zB hdt
     have HF := zo (show L = P from by
      have e1 := Je HVS.out h1 (k := k); have e2 := HD.out; have e3 := HTT.out; rw [← HLL.out, ← HP.out, show k = xu s by omega]
      rfl)
     go_upto_region 9 with fail
     refine zS 3 ?_; go_upto_region 21 with fail
     refine zS 2 ?_; go_wp2; go_ret; rw [HF.out]; exact ⟨_, _, rfl, od.mono hbo, B⟩
theorem Jq (v : Value) (l : List Sp) (w : World) (h : xh jf v l w) (hn : l.length ≤ 100000) : Calls Tryz.prog 69 #[v] w fun e w' => ∃ a c, e = .returned (.slice a l.length c) ∧ qM jf w.heap.size (.slice a l.length c) l w' ∧ Below w.heap.size w w' := by
 have B := Below.refl w.heap.size w
 have q26 : ∀ (w : World) (a : Option Addr) (n c n' c' : Nat), (binOp .eql 26 (.slice a n c) (.slice none n' c')).run Tryz.prog w = .ok (.bool a.isNone) w := fun w a n c n' c' => Lib.run_eql_slice_nil w _ _ a n c n' c' underlying26
 obtain ⟨a, c, rfl, hc⟩ := h.len
 have HS := zo h
 cases a with
 | none =>
  have hl0 : l = [] := by
   rcases h with ⟨_, h⟩ | ⟨g, o, c', e, _⟩ | ⟨_, _, e, h⟩
   ·exact h
   ·injection e with e1; cases e1
   ·exact h
  subst hl0; clear h HS; go_enter func69, ntmps69
  go_wp2; go_ret; exact ⟨_, _, rfl, qM.nil _ _, B⟩
 | some ad =>
  go_enter func69, ntmps69
  go_wp2_with (first | (at_builtin; refine jA rfl _ _ rfl _ _ rfl rfl od (h) (by simp only [List.length_append, List.length_cons, List.length_nil]; omega) (by omega) ?_; intro v_od wn ht za; have zf := B.size; have hbz := za.size; replace B := B.trans (za.mono (by omega)); clear od; have od := ht; clear ht; obtain ⟨a_od, c_od, hv, hco⟩ := od.len; (try simp only [List.length_append, List.length_cons, List.length_nil, Nat.zero_add] at hv hco); subst hv; simp only [zn]) | (refine Xw rfl rfl (kn B ?_); clear B; intro b_od wn zb zd od za zf zk B; replace h := h.be (za.mono (by omega)); simp only [zn]) | fail)
  go_ret; exact ⟨_, _, rfl, by rw [List.nil_append] at od; exact od.mono (by omega), B⟩
theorem jY {t u : TypeId} {fn : Func} {p r q : Tmp} (h : fn.results = #[.cell p t, .cell r u, .tmp q]) (tmps : Array Value) (w : World) (b c : Nat) (hp : tmps.getD p undef = .pointer (some ⟨b, 0, none⟩)) (hr : tmps.getD r undef = .pointer (some ⟨c, 0, none⟩)) {cs ds : Array Value} (v : Value) (hq : tmps.getD q undef = v) (ht : zw t w b cs) (hu : zw u w c ds) (hagg : ∀ w : World, (isAgg t).run Tryz.prog w = .ok true w) (zf : (Tryz.prog.info? t).map (·.size) = some cs.size) (hagg2 : ∀ w : World, (isAgg u).run Tryz.prog w = .ok true w) (hsz2 : (Tryz.prog.info? u).map (·.size) = some ds.size) :
  (results fn tmps).run Tryz.prog w = .ok (.tuple #[.agg cs, .agg ds, v]) w := by
 have hl := qE ht hagg zf
 have hl2 := qE hu hagg2 hsz2
 simp only [Instr.loadAt, Instr.sureAddr, Sem.run_bind, Sem.run_pure, Result.andThen_ok] at hl hl2
 unfold results
 rw [h]
 have hp' : tmps[p]?.getD undef = .pointer (some ⟨b, 0, none⟩) := by simpa using hp
 have hr' : tmps[r]?.getD undef = .pointer (some ⟨c, 0, none⟩) := by simpa using hr
 have hq' : tmps[q]?.getD undef = v := by simpa using hq
 simp [hp', hr', hq', Instr.sureAddr, asAddr, hl, hl2, Sem.run_bind, Sem.run_pure, Result.andThen_ok]
theorem zH.taken {α : Type} {k : Nat} {T ST : TypeId} {E : Xz α k T ST} {g o : Nat} {ls : List α} {w : World} (h : zH E g o ls w) {n c : Nat} (hn : n ≤ ls.length) (hc : n ≤ c) : xh E (.slice (some ⟨g, o, none⟩) n c) (ls.take n) w :=
 .inr (.inl ⟨g, o, c, by rw [List.length_take, Nat.min_eq_left hn], by rw [List.length_take]; omega, fun _ => h.take n⟩)
theorem zH.dropped {α : Type} {k : Nat} {T ST : TypeId} {E : Xz α k T ST} {g o : Nat} {ls : List α} {w : World} (h : zH E g o ls w) {n m c : Nat} (hm : m = ls.length - n) (hc : m ≤ c) : xh E (.slice (some ⟨g, o + n * k, none⟩) m c) (ls.drop n) w :=
 .inr (.inl ⟨g, o + n * k, c, by rw [List.length_drop, hm], by rw [List.length_drop]; omega, fun _ => h.drop n⟩)
theorem jE {c : Prop} [Decidable c] {p q : Prop} (h : c) (hp : p) : if c then p else q := by rw [if_pos h]; exact hp
theorem zw.drewN {t : TypeId} {w : World} {b : Nat} {cs : Array Value} (h : zw t w b cs) : zw t w.drew b cs := h
section
variable {o : Oper} {a : Act} {w : World} {Q : Exit → Act → World → Prop} {K : Act → World → Prop}
theorem xP {t : TypeId} {cs : Array Value} (x : Operand) (b : Nat) (ho : o.op = .load t x) (hx : a.eval x = .pointer (some ⟨b, 0, none⟩)) (ht : zw t w b cs) (hagg : ∀ w : World, (isAgg t).run Tryz.prog w = .ok true w) (zf : (Tryz.prog.info? t).map (·.size) = some cs.size)
  (h : K (a.put o.dst (.agg cs)) w) : o.wp Tryz.prog a w K Q := by
 unfold Oper.wp execOp
 simp only [ho, hx, qE ht hagg zf, Sem.run_bind, Sem.run_pure, Result.andThen_ok]
 exact h
theorem Zb (v : Value) (hrun : (execOp a.eval o).run Tryz.prog w = .ok (.value v) w) (h : K (a.put o.dst v) w) : o.wp Tryz.prog a w K Q := by
 unfold Oper.wp
 rw [hrun]
 exact h
end
theorem Wn (v : Value) (s : jb) (k : Nat) (w : World) (rs : xh jf v s.pts w) (hv : jT s = true) (h1 : 1 ≤ k) (h2 : k + 2 ≤ s.pts.length) : Calls Tryz.prog 26 #[.agg (jg v s), .int .i64 (k : Int)] w fun e w' => ∃ va vb, e = .returned (.tuple #[.agg (jg va (spA s k)), .agg (jg vb (spB s k)), .int .i64 0]) ∧ qM jf w.heap.size va (spA s k).pts w' ∧ qM jf w.heap.size vb (spB s k).pts w' ∧ Below w.heap.size w w' := by
 have B := Below.refl w.heap.size w
 obtain ⟨a, c, rfl, hc⟩ := rs.len
 have HV := zo hv
 have HVS := zo ((xq s).1 hv)
 have hl2 := HVS.out.l2
 have hn : s.pts.length ≤ 17592186044416 := by omega
 obtain ⟨g, o, rfl, pc0⟩ := rs.at (by omega)
 have HPC := zo pc0
 have hg := pc0.lt
 have q1 : decide ((k : Int) < 1) = false := zB (by omega)
 have q2 : decide ((s.pts.length : Int) - 2 < (k : Int)) = false := zB (by omega)
 clear hv pc0
 go_enter func26, ntmps26
 go_upto_region 0 with fail
 refine wp_region_lit ?_
 (refine jd (t := 30) B ?_; clear B; intro b_r2 wn zb zd r2 za zf zk B; replace rs := rs.be za)
 (refine jH (t := 30) (qn _ _ rfl) B ?_; clear B; intro b_r4 wn zb zd r4 za zf zk B; replace r2 := r2.be za; replace rs := rs.be za)
 (refine jH (t := 30) (qn _ _ rfl) B ?_; clear B; intro b_r5 wn zb zd r5 za zf zk B; replace r2 := r2.be za; replace r4 := r4.be za; replace rs := rs.be za)
 refine z7 1 ?_
 have k1 : w.heap.size ≤ b_r2 := by omega
 have k2 : b_r2 < b_r4 := by have := r2.lt; omega
 have k3 : b_r4 < b_r5 := by have := r4.lt; omega
 go_upto_region 1 with fail
 refine qz 1 ?_
 refine qe B (zE func16) (c := yi _ s true _ rs hn HV.out) ?_
 clear B
 intro wn za zf zg B
 replace r2 := r2.be za
 replace r4 := r4.be za
 replace r5 := r5.be za
 refine jL 9 ?_
 refine j1 underlying26 ?_
 refine z7 3 ?_
 go_upto_region 3 with fail
 go_cut [7, 8] from 24 to 28 (fun s7 s8 wx => ∃ b_r7 b_r8, s7 = .pointer (some ⟨b_r7, 0, none⟩) ∧ s8 = .pointer (some ⟨b_r8, 0, none⟩) ∧ Below w.heap.size w wx ∧ b_r5 < b_r7 ∧ b_r5 < b_r8 ∧ b_r7 ≠ b_r8 ∧ zw 30 wx b_r2 (jg (.slice (some ⟨g, o, none⟩) s.pts.length c) s) ∧ zw 30 wx b_r4 #[.slice none 0 0, .int .i64 0, .int .i64 0, .int .u8 0, .int .u8 0, .int .u8 0, .int .u8 0, .bool false, .int .i64 0] ∧ zw 30 wx b_r5 #[.slice none 0 0, .int .i64 0, .int .i64 0, .int .u8 0, .int .u8 0, .int .u8 0, .int .u8 0, .bool false, .int .i64 0] ∧ zw 30 wx b_r7 (jg (.slice (some ⟨g, o, none⟩) s.pts.length c) s) ∧ zw 30 wx b_r8 (jg (.slice (some ⟨g, o, none⟩) s.pts.length c) s))
 case first =>
  have hr5 := r5.lt; have r2B := r2; clear rs; refine kl 6 #[false, false, false, false, false, false] (by kernel_rfl) (by kernel_rfl) ?_; intro wn za; have hX := za; obtain ⟨zf, zg, B⟩ := zM B za; try replace r2 := r2.be za
  replace r4 := r4.be za
  replace r5 := r5.be za
  simp only [List.length_cons, List.length_nil, Nat.reduceAdd]; refine z6 0 rfl (by kernel_rfl) ⟨_, zC hX⟩ ?_; intro K hK; try simp only [zR]
  (first | ((first | refine qB ?_ | refine qC ?_); simp only [zn]; go_big_quiet_on) | (go_big_quiet_op; go_big_quiet_on))
  simp only [zn]; refine z6 1 rfl (by kernel_rfl) ⟨_, zC hX⟩ ?_; intro K hK; try simp only [zR]
  (first | ((first | refine qB ?_ | refine qC ?_); simp only [zn]; go_big_quiet_on) | (go_big_quiet_op; go_big_quiet_on))
  simp only [zn]; refine j9 2 3 rfl rfl (by kernel_rfl) rfl rfl (fun K hK => ?_) (fun K hK => ?_)
  ·skip
   refine zO (t := 30) _ (qn _ _ rfl) ?_; intro b_r7 wn zb zd ht za zg; have zf := B.size; have hsx := hX.size; replace B := B.trans (za.mono (by omega)); replace hX := hX.trans (za.mono (by omega)); try replace r2 := r2.be (za.mono zb)
   replace r4 := r4.be (za.mono zb)
   replace r5 := r5.be (za.mono zb)
   have r7 := ht; clear ht; refine hK _ _ ⟨fun _ => ⟨_, zC hX⟩, ?_⟩; clear hK K; simp only [zn]; refine zU 3 rfl (by kernel_rfl) rfl (fun K hK => ?_); refine zO (t := 30) _ (qn _ _ rfl) ?_; intro b_r8 wn zb zd ht za zg; have zf := B.size; have hsx := hX.size; replace B := B.trans (za.mono (by omega)); replace hX := hX.trans (za.mono (by omega)); try replace r2 := r2.be (za.mono zb)
   replace r4 := r4.be (za.mono zb)
   replace r5 := r5.be (za.mono zb)
   replace r7 := r7.be (za.mono zb)
   have r8 := ht; clear ht; refine hK _ _ ⟨fun _ => ⟨_, zC hX⟩, ?_⟩; clear hK K; simp only [zn]; refine zU 4 rfl (by kernel_rfl) rfl (fun K hK => ?_); refine jl (t := 30) _ _ _ _ rfl rfl rfl r7 (by kernel_rfl) rfl (by simp [jg, Value.oneCell']) ?_; clear r7; intro wn r7 ze zg; have zf := B.size; have hsx := hX.size; replace zg := Nat.le_of_eq zg.symm; replace B := qY.be B ze (by omega) B.size; replace hX := qY.be hX ze (by omega) hX.size; replace r2 := r2.cg ze; replace r4 := r4.cg ze; replace r5 := r5.cg ze; replace r8 := r8.cg ze; refine hK _ _ ⟨fun _ => ⟨_, zC hX⟩, ?_⟩; clear hK K; simp only [zn]
   refine zU 5 rfl (by kernel_rfl) rfl (fun K hK => ?_); refine jl (t := 30) _ _ _ _ rfl rfl rfl r8 (by kernel_rfl) rfl (by simp [jg, Value.oneCell']) ?_; clear r8; intro wn r8 ze zg; have zf := B.size; have hsx := hX.size; replace zg := Nat.le_of_eq zg.symm; replace B := qY.be B ze (by omega) B.size; replace hX := qY.be hX ze (by omega) hX.size; replace r2 := r2.cg ze; replace r4 := r4.cg ze; replace r5 := r5.cg ze; replace r7 := r7.cg ze; refine hK _ _ ⟨fun _ => ⟨_, zC hX⟩, ?_⟩; clear hK K; simp only [zn]; refine qT (by kernel_rfl) (by kernel_rfl) ?_; simp only [List.drop_succ_cons, List.drop_zero]; refine wpList_nil ?_; refine zI.normal ?_; go_wp2_with fail
   go_meet; exact ⟨b_r7, b_r8, rfl, rfl, B, by omega, by omega, by omega, r2, r4, r5, r7, r8⟩
  ·skip
   refine zO (t := 30) _ (qn _ _ rfl) ?_; intro b_r8 wn zb zd ht za zg; have zf := B.size; have hsx := hX.size; replace B := B.trans (za.mono (by omega)); replace hX := hX.trans (za.mono (by omega)); try replace r2 := r2.be (za.mono zb)
   replace r4 := r4.be (za.mono zb)
   replace r5 := r5.be (za.mono zb)
   have r8 := ht; clear ht; refine hK _ _ ⟨fun _ => ⟨_, zC hX⟩, ?_⟩; clear hK K; simp only [zn]; refine zU 2 rfl (by kernel_rfl) rfl (fun K hK => ?_); refine zO (t := 30) _ (qn _ _ rfl) ?_; intro b_r7 wn zb zd ht za zg; have zf := B.size; have hsx := hX.size; replace B := B.trans (za.mono (by omega)); replace hX := hX.trans (za.mono (by omega)); try replace r2 := r2.be (za.mono zb)
   replace r4 := r4.be (za.mono zb)
   replace r5 := r5.be (za.mono zb)
   replace r8 := r8.be (za.mono zb)
   have r7 := ht; clear ht; refine hK _ _ ⟨fun _ => ⟨_, zC hX⟩, ?_⟩; clear hK K; simp only [zn]; refine zU 4 rfl (by kernel_rfl) rfl (fun K hK => ?_); refine jl (t := 30) _ _ _ _ rfl rfl rfl r7 (by kernel_rfl) rfl (by simp [jg, Value.oneCell']) ?_; clear r7; intro wn r7 ze zg; have zf := B.size; have hsx := hX.size; replace zg := Nat.le_of_eq zg.symm; replace B := qY.be B ze (by omega) B.size; replace hX := qY.be hX ze (by omega) hX.size; replace r2 := r2.cg ze; replace r4 := r4.cg ze; replace r5 := r5.cg ze; replace r8 := r8.cg ze; refine hK _ _ ⟨fun _ => ⟨_, zC hX⟩, ?_⟩; clear hK K; simp only [zn]
   refine zU 5 rfl (by kernel_rfl) rfl (fun K hK => ?_); refine jl (t := 30) _ _ _ _ rfl rfl rfl r8 (by kernel_rfl) rfl (by simp [jg, Value.oneCell']) ?_; clear r8; intro wn r8 ze zg; have zf := B.size; have hsx := hX.size; replace zg := Nat.le_of_eq zg.symm; replace B := qY.be B ze (by omega) B.size; replace hX := qY.be hX ze (by omega) hX.size; replace r2 := r2.cg ze; replace r4 := r4.cg ze; replace r5 := r5.cg ze; replace r7 := r7.cg ze; refine hK _ _ ⟨fun _ => ⟨_, zC hX⟩, ?_⟩; clear hK K; simp only [zn]; refine qT (by kernel_rfl) (by kernel_rfl) ?_; simp only [List.drop_succ_cons, List.drop_zero]; refine wpList_nil ?_; refine zI.normal ?_; go_wp2_with fail
   go_meet; exact ⟨b_r7, b_r8, rfl, rfl, B, by omega, by omega, by omega, r2, r4, r5, r7, r8⟩
 case rest =>
 clear B r2 r4 r5
 obtain ⟨b_r7, b_r8, rfl, rfl, B, k4, k5, k6, r2, r4, r5, r7, r8⟩ := hcut
 have pc := HPC.out.of_eq (B.block _ HPC.out.lt)
 have r7l := r7.lt
 have r8l := r8.lt
 clear rs
 obtain ⟨PA, hPA⟩ : ∃ l, s.pts.take (k + 1) = l := ⟨_, rfl⟩
 obtain ⟨PB, hPB⟩ : ∃ l, s.pts.drop k = l := ⟨_, rfl⟩
 have HLA := zo (show PA.length = k + 1 from by rw [← hPA, List.length_take]; omega)
 have HLB := zo (show PB.length = s.pts.length - k from by rw [← hPB, List.length_drop])
 have HPA := zo hPA
 have HPB := zo hPB
 have HOKA := zo (show ∀ a ∈ PA, Q6 a from fun a ha => HVS.out.ok a (by rw [← hPA] at ha; exact List.mem_of_mem_take ha))
 obtain ⟨t, ht⟩ : ∃ t, yn PA = t := ⟨_, rfl⟩
 have HT := zo ht
 have htb : 0 ≤ t ∧ t ≤ 189812544 := by
  have h3 := HVS.out.pre (show k < s.pts.length by omega); have h4 := zfa (s := s) (at_ := k) (by omega); rw [hPA, ht] at h4; omega
 have HPH := zo (show zev s k = if s.pha - t < 0 then s.pha - t + (s.spa - 1 - (s.pha - t)) / s.spa * s.spa else s.pha - t from by unfold zev; rw [hPA, ht])
 have RA := zo (show ∀ W, zH jf g o s.pts W → xh jf (.slice (some ⟨g, o, none⟩) (k + 1) c) PA W from fun W h => by rw [← hPA]; exact h.taken (by omega) (by omega))
 have RB := zo (show ∀ W, zH jf g o s.pts W → xh jf (.slice (some ⟨g, o + k * 3, none⟩) (s.pts.length - k) (c - k)) PB W from fun W h => by rw [← hPB]; exact h.dropped rfl (by omega))
 have hs1 := HVS.out.s1
 have hs2 := HVS.out.s2
 have hq1 := HVS.out.p1
 have hq2 := HVS.out.p2
 have hkc : ¬ c = k := by omega
 have u1 : decide (k ≤ c) = true := zQ (by omega)
 have u2 : decide (k + 1 ≤ c) = true := zQ (by omega)
 have u3 : decide (k ≤ s.pts.length) = true := zQ (by omega)
 clear hPA hPB ht
 obtain ⟨b0, hb0⟩ : ∃ b, b = wc.heap.size := ⟨_, rfl⟩
 have hb7 : b_r7 < b0 := by omega
 have hb8 : b_r8 < b0 := by omega
 have HB0 := zo hb0
 clear hb0
 go_upto_region 4 with fail
 refine qz 5 ?_
 refine xz (zE func69) (c := Jq _ PA _ (RA.out _ pc) (by have := HLA.out; omega)) (h := ?_)
 rintro e wn ⟨a4, c4, rfl, o7, za⟩
 obtain ⟨zf, zg, B⟩ := zM B za
 replace r2 := r2.be za
 replace r4 := r4.be za
 replace r5 := r5.be za
 replace r7 := r7.be za
 replace r8 := r8.be za
 replace pc := pc.be za
 replace o7 := o7.mono (show b0 ≤ _ from by have := HB0.out; omega)
 refine ⟨_, rfl, ?_⟩
 simp only [zn]
 refine jL 1 ?_
 (refine yg (t := 30) rfl _ _ rfl _ 0 rfl _ _ _ rfl r7 rfl (xV B (by omega) ?_); clear r7 B; intro wn r7 ze zf zg B; replace o7 := o7.chg ze (by omega); replace r2 := r2.cg ze; replace r4 := r4.cg ze; replace r5 := r5.cg ze; replace r8 := r8.cg ze; replace pc := pc.cg ze; simp only [zn])
 refine wpList_nil ?_
 replace r7 : zw 30 _ b_r7 (jg (.slice a4 PA.length c4) s) := r7
 go_upto_region 5 with fail
 refine qz 4 ?_
 refine xz (zE func69) (c := Jq _ PB _ (RB.out _ pc) (by have := HLB.out; omega)) (h := ?_)
 rintro e wn ⟨a5, c5, rfl, o8, za⟩
 obtain ⟨zf, zg, B⟩ := zM B za
 replace r2 := r2.be za
 replace r4 := r4.be za
 replace r5 := r5.be za
 replace r7 := r7.be za
 replace r8 := r8.be za
 replace pc := pc.be za
 replace o7 := o7.be za
 replace o8 := o8.mono (show b0 ≤ _ from by have := HB0.out; omega)
 refine ⟨_, rfl, ?_⟩
 simp only [zn]
 refine jL 1 ?_
 (refine yg (t := 30) rfl _ _ rfl _ 0 rfl _ _ _ rfl r8 rfl (xV B (by omega) ?_); clear r8 B; intro wn r8 ze zf zg B; replace o7 := o7.chg ze (by omega); replace o8 := o8.chg ze (by omega); replace r2 := r2.cg ze; replace r4 := r4.cg ze; replace r5 := r5.cg ze; replace r7 := r7.cg ze; replace pc := pc.cg ze; simp only [zn])
 refine wpList_nil ?_
 replace r8 : zw 30 _ b_r8 (jg (.slice a5 PB.length c5) s) := r8
 clear pc
 go_upto_region 6 with fail
 have rs7 := o7.rs
 have lx_r2 := r2.lt
 have lx_r4 := r4.lt
 have lx_r5 := r5.lt
 have lx_r7 := r7.lt
 have lx_r8 := r8.lt
 have lx_o7 := o7.lt
 have lx_o8 := o8.lt
 refine zA 7 [(4, zF ?v1_4)] (by kernel_rfl) (by kernel_rfl) (by kernel_rfl) ?_
 rotate_left 1
 simp only [jS, Nat.reduceAdd]
 refine vi 4 ?_
 refine zcB ?_ ?_
 ·intro wn za hE Kx hKx
  obtain ⟨zf, zg, B⟩ := zM B za
  replace r2 := r2.be za
  replace r4 := r4.be za
  replace r5 := r5.be za
  replace r7 := r7.be za
  replace r8 := r8.be za
  replace o7 := o7.be za
  replace o8 := o8.be za
  replace rs7 := rs7.be za
  refine zcF func54 ?_
  refine (zat _ PA t wn rs7 (by have := HLA.out; omega) HOKA.out HT.out).mono ?_
  rintro e wm ⟨rfl, zl⟩; refine ⟨_, rfl, ?_⟩; have hz := hKx () wm trivial zl
  dsimp only [zF] at hz
  exact hz
 rintro ⟨⟩
 dsimp only [zF]
 simp only [zn]
 refine vi 2 ?_
 refine qi ?_
 intro wn za hE
 obtain ⟨zf, zg, B⟩ := zM B za
 replace r2 := r2.be za
 replace r4 := r4.be za
 replace r5 := r5.be za
 replace r7 := r7.be za
 replace r8 := r8.be za
 replace o7 := o7.be za
 replace o8 := o8.be za
 replace rs7 := rs7.be za
 clear hE
 try simp only [List.drop_succ_cons, List.drop_zero]
 go_wp2_with (first | (refine xr (t := 30) rfl _ _ rfl _ 8 rfl _ rfl r8 rfl (xV B (by omega) ?_); clear r8 B; intro wn r8 ze zf zg B; replace o7 := o7.chg ze (by omega); replace o8 := o8.chg ze (by omega); replace r2 := r2.cg ze; replace r4 := r4.cg ze; replace r5 := r5.cg ze; replace r7 := r7.cg ze; simp only [zn]) | fail)
 refine zI.normal ?_
 replace r8 : zw 30 _ b_r8 (jg (.slice a5 PB.length c5) ⟨s.pts, s.rad, s.spa, s.col, s.era, s.pha - t⟩) := r8
 clear rs7
 have hbw : w.heap.size ≤ b0 := by omega
 go_upto_region 7 with fail
 by_cases hneg : s.pha - t < 0
 ·have q3 : decide (s.pha - t < 0) = true := zQ hneg
  have hnn : 0 ≤ s.spa - 1 - (s.pha - t) := by omega
  have hdb : 0 ≤ (s.spa - 1 - (s.pha - t)) / s.spa := Int.ediv_nonneg hnn (by omega); have hdb2 : (s.spa - 1 - (s.pha - t)) / s.spa ≤ s.spa - 1 - (s.pha - t) := Int.ediv_le_self _ hnn; have hmb := jX (a := (s.spa - 1 - (s.pha - t)) / s.spa) (b := s.spa) (m := 200000000) (k := 4096) hdb (by omega) (by omega) hs2; have e0 : s.spa ≠ 0 := by omega
  have e00 : (s.spa == 0) = false := by simp; omega
  obtain ⟨ph, hph⟩ : ∃ p, s.pha - t + (s.spa - 1 - (s.pha - t)) / s.spa * s.spa = p := ⟨_, rfl⟩; have HPHV := zo hph; have HPV := zo (show zev s k = ph from by rw [HPH.out, if_pos hneg, hph]); clear hph; refine zS 3 ?_; go_upto_region 8 with fail
  have lx_r2 := r2.lt
  have lx_r4 := r4.lt
  have lx_r5 := r5.lt
  have lx_r7 := r7.lt
  have lx_r8 := r8.lt
  have lx_o7 := o7.lt
  have lx_o8 := o8.lt
  refine zA 16 [] (by kernel_rfl) (by kernel_rfl) (by kernel_rfl) ?_
  rotate_left 0
  simp only [jS, Nat.reduceAdd]; refine vi 16 ?_
  refine qi ?_; intro wn za hE; obtain ⟨zf, zg, B⟩ := zM B za
  replace r2 := r2.be za
  replace r4 := r4.be za
  replace r5 := r5.be za
  replace r7 := r7.be za
  replace r8 := r8.be za
  replace o7 := o7.be za
  replace o8 := o8.be za
  clear hE; try simp only [List.drop_succ_cons, List.drop_zero]
  go_wp2_with (first | (refine xr (t := 30) rfl _ _ rfl _ 8 rfl _ rfl r8 rfl (xV B (by omega) ?_); clear r8 B; intro wn r8 ze zf zg B; replace o7 := o7.chg ze (by omega); replace o8 := o8.chg ze (by omega); replace r2 := r2.cg ze; replace r4 := r4.cg ze; replace r5 := r5.cg ze; replace r7 := r7.cg ze; simp only [zn]) | fail)
  refine zI.normal ?_; replace r8 : zw 30 _ b_r8 (jg (.slice a5 PB.length c5) ⟨s.pts, s.rad, s.spa, s.col, s.era, s.pha - t + (s.spa - 1 - (s.pha - t)) / s.spa * s.spa⟩) := r8; rw [HPHV.out] at r8; go_upto_region 9 with fail
  go_cut [6] from 9 to 67 (fun s6 wx => s6 = .int .i64 0 ∧ Below w.heap.size w wx ∧ qM jf b0 (.slice a4 PA.length c4) PA wx ∧ qM jf b0 (.slice a5 PB.length c5) PB wx ∧ zw 30 wx b_r4 (jg (.slice a4 PA.length c4) s) ∧ zw 30 wx b_r5 (jg (.slice a5 PB.length c5) ⟨s.pts, s.rad, s.spa, s.col, s.era, ph⟩))
  case first =>
   refine wp_region_any (by kernel_rfl) ?_; change wpAny _ _ _ _ _ _ _ (World.drew _)
   replace B := B.drew; replace r2 := zw.drewN r2; replace r4 := zw.drewN r4; replace r5 := zw.drewN r5; replace r7 := zw.drewN r7; replace r8 := zw.drewN r8; replace o7 := o7.be ((Below.refl _ _).drew); replace o8 := o8.be ((Below.refl _ _).drew)
   generalize wn.drew = w7 at *
   refine wpAny_ready (rs := [0, 1]) (by kernel_rfl) (by simp) ?_; refine AllReady.cons rfl (fun K hK => jE rfl ?_) ?_
   ·simp only [zR]
    refine xP (t := 30) _ _ rfl rfl r7 isAgg30 (by kernel_rfl) ?_; refine hK _ _ ?_; simp only [zn]; clear hK K; refine wpAny_ready (rs := [1, 2]) (by kernel_rfl) (by simp) ?_; refine AllReady.cons rfl (fun K hK => jE rfl ?_) ?_
    ·simp only [zR]
     refine xP (t := 30) _ _ rfl rfl r8 isAgg30 (by kernel_rfl) ?_; refine hK _ _ ?_; simp only [zn]; clear hK K; refine wpAny_ready (rs := [2]) (by kernel_rfl) (by simp) ?_; refine AllReady.cons rfl (fun K hK => jE rfl ?_) ?_
     ·simp only [zR]
      refine jl (t := 30) _ _ _ _ rfl rfl rfl r4 (by kernel_rfl) rfl (by simp [jg, Value.oneCell']) ?_; clear r4; intro wn r4 ze zg; have zf := B.size; replace zg := Nat.le_of_eq zg.symm; replace B := qY.be B ze (by omega) B.size; replace o7 := o7.chg ze (by omega); replace o8 := o8.chg ze (by omega); replace r2 := r2.cg ze; replace r5 := r5.cg ze; replace r7 := r7.cg ze; replace r8 := r8.cg ze; refine hK _ _ ?_; simp only [zn]; clear hK K; refine wpAny_ready (rs := [3]) (by kernel_rfl) (by simp) ?_; refine AllReady.cons rfl (fun K hK => jE rfl ?_) ?_
      ·simp only [zR]
       refine jl (t := 30) _ _ _ _ rfl rfl rfl r5 (by kernel_rfl) rfl (by simp [jg, Value.oneCell']) ?_; clear r5; intro wn r5 ze zg; have zf := B.size; replace zg := Nat.le_of_eq zg.symm; replace B := qY.be B ze (by omega) B.size; replace o7 := o7.chg ze (by omega); replace o8 := o8.chg ze (by omega); replace r2 := r2.cg ze; replace r4 := r4.cg ze; replace r7 := r7.cg ze; replace r8 := r8.cg ze; refine hK _ _ ?_; simp only [zn]; clear hK K; refine wpAny_ready (rs := [4]) (by kernel_rfl) (by simp) ?_; refine AllReady.cons rfl (fun K hK => jE rfl ?_) ?_
       ·simp only [zR]
        refine Zb (_) (by rfl) ?_; refine hK _ _ ?_; simp only [zn]; clear hK K; refine wpAny_done (by kernel_rfl) ?_ _; go_wp2_with fail
        go_meet; exact ⟨rfl, B, o7, o8, r4, r5⟩
       exact AllReady.nil
      exact AllReady.nil
     exact AllReady.nil
    refine AllReady.cons rfl (fun K hK => jE rfl ?_) ?_
    ·simp only [zR]
     refine jl (t := 30) _ _ _ _ rfl rfl rfl r4 (by kernel_rfl) rfl (by simp [jg, Value.oneCell']) ?_; clear r4; intro wn r4 ze zg; have zf := B.size; replace zg := Nat.le_of_eq zg.symm; replace B := qY.be B ze (by omega) B.size; replace o7 := o7.chg ze (by omega); replace o8 := o8.chg ze (by omega); replace r2 := r2.cg ze; replace r5 := r5.cg ze; replace r7 := r7.cg ze; replace r8 := r8.cg ze; refine hK _ _ ?_; simp only [zn]; clear hK K; refine wpAny_ready (rs := [1]) (by kernel_rfl) (by simp) ?_; refine AllReady.cons rfl (fun K hK => jE rfl ?_) ?_
     ·simp only [zR]
      refine xP (t := 30) _ _ rfl rfl r8 isAgg30 (by kernel_rfl) ?_; refine hK _ _ ?_; simp only [zn]; clear hK K; refine wpAny_ready (rs := [3]) (by kernel_rfl) (by simp) ?_; refine AllReady.cons rfl (fun K hK => jE rfl ?_) ?_
      ·simp only [zR]
       refine jl (t := 30) _ _ _ _ rfl rfl rfl r5 (by kernel_rfl) rfl (by simp [jg, Value.oneCell']) ?_; clear r5; intro wn r5 ze zg; have zf := B.size; replace zg := Nat.le_of_eq zg.symm; replace B := qY.be B ze (by omega) B.size; replace o7 := o7.chg ze (by omega); replace o8 := o8.chg ze (by omega); replace r2 := r2.cg ze; replace r4 := r4.cg ze; replace r7 := r7.cg ze; replace r8 := r8.cg ze; refine hK _ _ ?_; simp only [zn]; clear hK K; refine wpAny_ready (rs := [4]) (by kernel_rfl) (by simp) ?_; refine AllReady.cons rfl (fun K hK => jE rfl ?_) ?_
       ·simp only [zR]
        refine Zb (_) (by rfl) ?_; refine hK _ _ ?_; simp only [zn]; clear hK K; refine wpAny_done (by kernel_rfl) ?_ _; go_wp2_with fail
        go_meet; exact ⟨rfl, B, o7, o8, r4, r5⟩
       exact AllReady.nil
      exact AllReady.nil
     exact AllReady.nil
    exact AllReady.nil
   refine AllReady.cons rfl (fun K hK => jE rfl ?_) ?_
   ·simp only [zR]
    refine xP (t := 30) _ _ rfl rfl r8 isAgg30 (by kernel_rfl) ?_; refine hK _ _ ?_; simp only [zn]; clear hK K; refine wpAny_ready (rs := [0]) (by kernel_rfl) (by simp) ?_; refine AllReady.cons rfl (fun K hK => jE rfl ?_) ?_
    ·simp only [zR]
     refine xP (t := 30) _ _ rfl rfl r7 isAgg30 (by kernel_rfl) ?_; refine hK _ _ ?_; simp only [zn]; clear hK K; refine wpAny_ready (rs := [2]) (by kernel_rfl) (by simp) ?_; refine AllReady.cons rfl (fun K hK => jE rfl ?_) ?_
     ·simp only [zR]
      refine jl (t := 30) _ _ _ _ rfl rfl rfl r4 (by kernel_rfl) rfl (by simp [jg, Value.oneCell']) ?_; clear r4; intro wn r4 ze zg; have zf := B.size; replace zg := Nat.le_of_eq zg.symm; replace B := qY.be B ze (by omega) B.size; replace o7 := o7.chg ze (by omega); replace o8 := o8.chg ze (by omega); replace r2 := r2.cg ze; replace r5 := r5.cg ze; replace r7 := r7.cg ze; replace r8 := r8.cg ze; refine hK _ _ ?_; simp only [zn]; clear hK K; refine wpAny_ready (rs := [3]) (by kernel_rfl) (by simp) ?_; refine AllReady.cons rfl (fun K hK => jE rfl ?_) ?_
      ·simp only [zR]
       refine jl (t := 30) _ _ _ _ rfl rfl rfl r5 (by kernel_rfl) rfl (by simp [jg, Value.oneCell']) ?_; clear r5; intro wn r5 ze zg; have zf := B.size; replace zg := Nat.le_of_eq zg.symm; replace B := qY.be B ze (by omega) B.size; replace o7 := o7.chg ze (by omega); replace o8 := o8.chg ze (by omega); replace r2 := r2.cg ze; replace r4 := r4.cg ze; replace r7 := r7.cg ze; replace r8 := r8.cg ze; refine hK _ _ ?_; simp only [zn]; clear hK K; refine wpAny_ready (rs := [4]) (by kernel_rfl) (by simp) ?_; refine AllReady.cons rfl (fun K hK => jE rfl ?_) ?_
       ·simp only [zR]
        refine Zb (_) (by rfl) ?_; refine hK _ _ ?_; simp only [zn]; clear hK K; refine wpAny_done (by kernel_rfl) ?_ _; go_wp2_with fail
        go_meet; exact ⟨rfl, B, o7, o8, r4, r5⟩
       exact AllReady.nil
      exact AllReady.nil
     exact AllReady.nil
    exact AllReady.nil
   exact AllReady.nil
  case rest =>
  clear B o7 o8 r4 r5; obtain ⟨rfl, B, o7, o8, r4, r5⟩ := hcut; first | (refine bodyPost_ret (jY (t := 30) (u := 30) rfl _ _ b_r4 b_r5 rfl rfl _ rfl r4 r5 isAgg30 (by kernel_rfl) isAgg30 (by kernel_rfl)) rfl ?_) | (go_step; refine bodyPost_ret (jY (t := 30) (u := 30) rfl _ _ b_r4 b_r5 rfl rfl _ rfl r4 r5 isAgg30 (by kernel_rfl) isAgg30 (by kernel_rfl)) rfl ?_) | (go_step; go_step; refine bodyPost_ret (jY (t := 30) (u := 30) rfl _ _ b_r4 b_r5 rfl rfl _ rfl r4 r5 isAgg30 (by kernel_rfl) isAgg30 (by kernel_rfl)) rfl ?_) | (go_step; go_step; go_step; refine bodyPost_ret (jY (t := 30) (u := 30) rfl _ _ b_r4 b_r5 rfl rfl _ rfl r4 r5 isAgg30 (by kernel_rfl) isAgg30 (by kernel_rfl)) rfl ?_) | (go_step; go_step; go_step; go_step; refine bodyPost_ret (jY (t := 30) (u := 30) rfl _ _ b_r4 b_r5 rfl rfl _ rfl r4 r5 isAgg30 (by kernel_rfl) isAgg30 (by kernel_rfl)) rfl ?_) | (go_step; go_step; go_step; go_step; go_step; refine bodyPost_ret (jY (t := 30) (u := 30) rfl _ _ b_r4 b_r5 rfl rfl _ rfl r4 r5 isAgg30 (by kernel_rfl) isAgg30 (by kernel_rfl)) rfl ?_)
  have e4 : jg (.slice a4 PA.length c4) s = jg (.slice a4 PA.length c4) (spA s k) := rfl; have e5 : jg (.slice a5 PB.length c5) ⟨s.pts, s.rad, s.spa, s.col, s.era, ph⟩ = jg (.slice a5 PB.length c5) (spB s k) := by rw [← HPV.out]; rfl
  rw [e4, e5]; exact ⟨_, _, rfl, by show qM jf _ _ (s.pts.take (k + 1)) _; rw [HPA.out]; exact o7.mono (by have := HB0.out; omega), by show qM jf _ _ (s.pts.drop k) _; rw [HPB.out]; exact o8.mono (by have := HB0.out; omega), B⟩
 ·have q3 : decide (s.pha - t < 0) = false := zB hneg
  obtain ⟨ph, hph⟩ : ∃ p, s.pha - t = p := ⟨_, rfl⟩; have HPV := zo (show zev s k = ph from by rw [HPH.out, if_neg hneg, hph]); have HPHV := zo hph; clear hph; refine zS 3 ?_; rw [HPHV.out] at r8; go_upto_region 9 with fail
  go_cut [6] from 9 to 67 (fun s6 wx => s6 = .int .i64 0 ∧ Below w.heap.size w wx ∧ qM jf b0 (.slice a4 PA.length c4) PA wx ∧ qM jf b0 (.slice a5 PB.length c5) PB wx ∧ zw 30 wx b_r4 (jg (.slice a4 PA.length c4) s) ∧ zw 30 wx b_r5 (jg (.slice a5 PB.length c5) ⟨s.pts, s.rad, s.spa, s.col, s.era, ph⟩))
  case first =>
   refine wp_region_any (by kernel_rfl) ?_; change wpAny _ _ _ _ _ _ _ (World.drew _)
   replace B := B.drew; replace r2 := zw.drewN r2; replace r4 := zw.drewN r4; replace r5 := zw.drewN r5; replace r7 := zw.drewN r7; replace r8 := zw.drewN r8; replace o7 := o7.be ((Below.refl _ _).drew); replace o8 := o8.be ((Below.refl _ _).drew)
   generalize wn.drew = w7 at *
   refine wpAny_ready (rs := [0, 1]) (by kernel_rfl) (by simp) ?_; refine AllReady.cons rfl (fun K hK => jE rfl ?_) ?_
   ·simp only [zR]
    refine xP (t := 30) _ _ rfl rfl r7 isAgg30 (by kernel_rfl) ?_; refine hK _ _ ?_; simp only [zn]; clear hK K; refine wpAny_ready (rs := [1, 2]) (by kernel_rfl) (by simp) ?_; refine AllReady.cons rfl (fun K hK => jE rfl ?_) ?_
    ·simp only [zR]
     refine xP (t := 30) _ _ rfl rfl r8 isAgg30 (by kernel_rfl) ?_; refine hK _ _ ?_; simp only [zn]; clear hK K; refine wpAny_ready (rs := [2]) (by kernel_rfl) (by simp) ?_; refine AllReady.cons rfl (fun K hK => jE rfl ?_) ?_
     ·simp only [zR]
      refine jl (t := 30) _ _ _ _ rfl rfl rfl r4 (by kernel_rfl) rfl (by simp [jg, Value.oneCell']) ?_; clear r4; intro wn r4 ze zg; have zf := B.size; replace zg := Nat.le_of_eq zg.symm; replace B := qY.be B ze (by omega) B.size; replace o7 := o7.chg ze (by omega); replace o8 := o8.chg ze (by omega); replace r2 := r2.cg ze; replace r5 := r5.cg ze; replace r7 := r7.cg ze; replace r8 := r8.cg ze; refine hK _ _ ?_; simp only [zn]; clear hK K; refine wpAny_ready (rs := [3]) (by kernel_rfl) (by simp) ?_; refine AllReady.cons rfl (fun K hK => jE rfl ?_) ?_
      ·simp only [zR]
       refine jl (t := 30) _ _ _ _ rfl rfl rfl r5 (by kernel_rfl) rfl (by simp [jg, Value.oneCell']) ?_; clear r5; intro wn r5 ze zg; have zf := B.size; replace zg := Nat.le_of_eq zg.symm; replace B := qY.be B ze (by omega) B.size; replace o7 := o7.chg ze (by omega); replace o8 := o8.chg ze (by omega); replace r2 := r2.cg ze; replace r4 := r4.cg ze; replace r7 := r7.cg ze; replace r8 := r8.cg ze; refine hK _ _ ?_; simp only [zn]; clear hK K; refine wpAny_ready (rs := [4]) (by kernel_rfl) (by simp) ?_; refine AllReady.cons rfl (fun K hK => jE rfl ?_) ?_
       ·simp only [zR]
        refine Zb (_) (by rfl) ?_; refine hK _ _ ?_; simp only [zn]; clear hK K; refine wpAny_done (by kernel_rfl) ?_ _; go_wp2_with fail
        go_meet; exact ⟨rfl, B, o7, o8, r4, r5⟩
       exact AllReady.nil
      exact AllReady.nil
     exact AllReady.nil
    refine AllReady.cons rfl (fun K hK => jE rfl ?_) ?_
    ·simp only [zR]
     refine jl (t := 30) _ _ _ _ rfl rfl rfl r4 (by kernel_rfl) rfl (by simp [jg, Value.oneCell']) ?_; clear r4; intro wn r4 ze zg; have zf := B.size; replace zg := Nat.le_of_eq zg.symm; replace B := qY.be B ze (by omega) B.size; replace o7 := o7.chg ze (by omega); replace o8 := o8.chg ze (by omega); replace r2 := r2.cg ze; replace r5 := r5.cg ze; replace r7 := r7.cg ze; replace r8 := r8.cg ze; refine hK _ _ ?_; simp only [zn]; clear hK K; refine wpAny_ready (rs := [1]) (by kernel_rfl) (by simp) ?_; refine AllReady.cons rfl (fun K hK => jE rfl ?_) ?_
     ·simp only [zR]
      refine xP (t := 30) _ _ rfl rfl r8 isAgg30 (by kernel_rfl) ?_; refine hK _ _ ?_; simp only [zn]; clear hK K; refine wpAny_ready (rs := [3]) (by kernel_rfl) (by simp) ?_; refine AllReady.cons rfl (fun K hK => jE rfl ?_) ?_
      ·simp only [zR]
       refine jl (t := 30) _ _ _ _ rfl rfl rfl r5 (by kernel_rfl) rfl (by simp [jg, Value.oneCell']) ?_; clear r5; intro wn r5 ze zg; have zf := B.size; replace zg := Nat.le_of_eq zg.symm; replace B := qY.be B ze (by omega) B.size; replace o7 := o7.chg ze (by omega); replace o8 := o8.chg ze (by omega); replace r2 := r2.cg ze; replace r4 := r4.cg ze; replace r7 := r7.cg ze; replace r8 := r8.cg ze; refine hK _ _ ?_; simp only [zn]; clear hK K; refine wpAny_ready (rs := [4]) (by kernel_rfl) (by simp) ?_; refine AllReady.cons rfl (fun K hK => jE rfl ?_) ?_
       ·simp only [zR]
        refine Zb (_) (by rfl) ?_; refine hK _ _ ?_; simp only [zn]; clear hK K; refine wpAny_done (by kernel_rfl) ?_ _; go_wp2_with fail
        go_meet; exact ⟨rfl, B, o7, o8, r4, r5⟩
       exact AllReady.nil
      exact AllReady.nil
     exact AllReady.nil
    exact AllReady.nil
   refine AllReady.cons rfl (fun K hK => jE rfl ?_) ?_
   ·simp only [zR]
    refine xP (t := 30) _ _ rfl rfl r8 isAgg30 (by kernel_rfl) ?_; refine hK _ _ ?_; simp only [zn]; clear hK K; refine wpAny_ready (rs := [0]) (by kernel_rfl) (by simp) ?_; refine AllReady.cons rfl (fun K hK => jE rfl ?_) ?_
    ·simp only [zR]
     refine xP (t := 30) _ _ rfl rfl r7 isAgg30 (by kernel_rfl) ?_; refine hK _ _ ?_; simp only [zn]; clear hK K; refine wpAny_ready (rs := [2]) (by kernel_rfl) (by simp) ?_; refine AllReady.cons rfl (fun K hK => jE rfl ?_) ?_
     ·simp only [zR]
      refine jl (t := 30) _ _ _ _ rfl rfl rfl r4 (by kernel_rfl) rfl (by simp [jg, Value.oneCell']) ?_; clear r4; intro wn r4 ze zg; have zf := B.size; replace zg := Nat.le_of_eq zg.symm; replace B := qY.be B ze (by omega) B.size; replace o7 := o7.chg ze (by omega); replace o8 := o8.chg ze (by omega); replace r2 := r2.cg ze; replace r5 := r5.cg ze; replace r7 := r7.cg ze; replace r8 := r8.cg ze; refine hK _ _ ?_; simp only [zn]; clear hK K; refine wpAny_ready (rs := [3]) (by kernel_rfl) (by simp) ?_; refine AllReady.cons rfl (fun K hK => jE rfl ?_) ?_
      ·simp only [zR]
       refine jl (t := 30) _ _ _ _ rfl rfl rfl r5 (by kernel_rfl) rfl (by simp [jg, Value.oneCell']) ?_; clear r5; intro wn r5 ze zg; have zf := B.size; replace zg := Nat.le_of_eq zg.symm; replace B := qY.be B ze (by omega) B.size; replace o7 := o7.chg ze (by omega); replace o8 := o8.chg ze (by omega); replace r2 := r2.cg ze; replace r4 := r4.cg ze; replace r7 := r7.cg ze; replace r8 := r8.cg ze; refine hK _ _ ?_; simp only [zn]; clear hK K; refine wpAny_ready (rs := [4]) (by kernel_rfl) (by simp) ?_; refine AllReady.cons rfl (fun K hK => jE rfl ?_) ?_
       ·simp only [zR]
        refine Zb (_) (by rfl) ?_; refine hK _ _ ?_; simp only [zn]; clear hK K; refine wpAny_done (by kernel_rfl) ?_ _; go_wp2_with fail
        go_meet; exact ⟨rfl, B, o7, o8, r4, r5⟩
       exact AllReady.nil
      exact AllReady.nil
     exact AllReady.nil
    exact AllReady.nil
   exact AllReady.nil
  case rest =>
  clear B o7 o8 r4 r5; obtain ⟨rfl, B, o7, o8, r4, r5⟩ := hcut; first | (refine bodyPost_ret (jY (t := 30) (u := 30) rfl _ _ b_r4 b_r5 rfl rfl _ rfl r4 r5 isAgg30 (by kernel_rfl) isAgg30 (by kernel_rfl)) rfl ?_) | (go_step; refine bodyPost_ret (jY (t := 30) (u := 30) rfl _ _ b_r4 b_r5 rfl rfl _ rfl r4 r5 isAgg30 (by kernel_rfl) isAgg30 (by kernel_rfl)) rfl ?_) | (go_step; go_step; refine bodyPost_ret (jY (t := 30) (u := 30) rfl _ _ b_r4 b_r5 rfl rfl _ rfl r4 r5 isAgg30 (by kernel_rfl) isAgg30 (by kernel_rfl)) rfl ?_) | (go_step; go_step; go_step; refine bodyPost_ret (jY (t := 30) (u := 30) rfl _ _ b_r4 b_r5 rfl rfl _ rfl r4 r5 isAgg30 (by kernel_rfl) isAgg30 (by kernel_rfl)) rfl ?_) | (go_step; go_step; go_step; go_step; refine bodyPost_ret (jY (t := 30) (u := 30) rfl _ _ b_r4 b_r5 rfl rfl _ rfl r4 r5 isAgg30 (by kernel_rfl) isAgg30 (by kernel_rfl)) rfl ?_) | (go_step; go_step; go_step; go_step; go_step; refine bodyPost_ret (jY (t := 30) (u := 30) rfl _ _ b_r4 b_r5 rfl rfl _ rfl r4 r5 isAgg30 (by kernel_rfl) isAgg30 (by kernel_rfl)) rfl ?_)
  have e4 : jg (.slice a4 PA.length c4) s = jg (.slice a4 PA.length c4) (spA s k) := rfl; have e5 : jg (.slice a5 PB.length c5) ⟨s.pts, s.rad, s.spa, s.col, s.era, ph⟩ = jg (.slice a5 PB.length c5) (spB s k) := by rw [← HPV.out]; rfl
  rw [e4, e5]; exact ⟨_, _, rfl, by show qM jf _ _ (s.pts.take (k + 1)) _; rw [HPA.out]; exact o7.mono (by have := HB0.out; omega), by show qM jf _ _ (s.pts.drop k) _; rw [HPB.out]; exact o8.mono (by have := HB0.out; omega), B⟩
def W6 (l : List UInt8) (st : Nat × Bool) : Sp × (Nat × Bool) := (⟨(beN (vQ l st 3).1 : Int) - 1048576, (beN (vQ l (vQ l st 3).2 3).1 : Int) - 1048576, (beN (vQ l (vQ l (vQ l st 3).2 3).2 1).1 : Int)⟩, (vQ l (vQ l (vQ l st 3).2 3).2 1).2)
def Xc (l : List UInt8) : Nat → List Sp × (Nat × Bool)
 | 0 => ([], (vQ l (0, false) 1).2)
 | k + 1 => ((Xc l k).1 ++ [(W6 l (Xc l k).2).1], (W6 l (Xc l k).2).2)
theorem zba (l : List UInt8) : ∀ k, (Xc l k).1.length = k
 | 0 => rfl
 | k + 1 => by
  show ((Xc l k).1 ++ [_]).length = _
  rw [List.length_append, zba l k]
  rfl
theorem zhI {l : List UInt8} {st : Nat × Bool} (h : (W6 l st).2.2 = false) : st.2 = false ∧ (W6 l st).2.1 = st.1 + 7 ∧ st.1 + 7 ≤ l.length := by
 obtain ⟨a1, a2, a3⟩ := ua (l := l) (m := 1) h
 obtain ⟨b1, b2, b3⟩ := ua a1
 obtain ⟨c1, c2, c3⟩ := ua b1
 refine ⟨c1, ?_, ?_⟩
 ·show (vQ l (vQ l (vQ l st 3).2 3).2 1).2.1 = _
  rw [a2, b2, c2]
 ·rw [b2, c2] at a3
  omega
theorem zeG (l : List UInt8) : ∀ k, (Xc l k).2.2 = false → (Xc l k).2.1 = 1 + 7 * k ∧ 1 + 7 * k ≤ l.length
 | 0, h => by
  obtain ⟨_, a2, a3⟩ := ua (l := l) (st := (0, false)) (m := 1) h; exact ⟨by show (vQ l (0, false) 1).2.1 = _; rw [a2], by simpa using a3⟩
 | k + 1, h => by
  obtain ⟨a1, a2, a3⟩ := zhI (l := l) h; obtain ⟨b1, b2⟩ := zeG l k a1; refine ⟨?_, ?_⟩
  ·show (W6 l (Xc l k).2).2.1 = _
   rw [a2, b1]; omega
  ·rw [b1] at a3
   omega
theorem zhJ {l : List UInt8} {st : Nat × Bool} (h : st.1 ≤ l.length) : (W6 l st).2.1 ≤ l.length := vY (vY (vY h))
theorem zeH (l : List UInt8) : ∀ k, (Xc l k).2.1 ≤ l.length
 | 0 => vY (Nat.zero_le _)
 | k + 1 => zhJ (zeH l k)
theorem zhK {l : List UInt8} {k : Nat} (h : 8 + 7 * k ≤ l.length) : W6 l (1 + 7 * k, false) = (WP l k, (1 + 7 * (k + 1), false)) := by
 unfold W6
 rw [vA (by omega)]
 simp only
 rw [vA (by omega)]
 simp only
 rw [vA (by omega)]
 simp only
 unfold WP
 rw [show 1 + 7 * k + 3 = 4 + 7 * k by omega, show 4 + 7 * k + 3 = 7 + 7 * k by omega, show 7 + 7 * k + 1 = 1 + 7 * (k + 1) by omega]
theorem W5 (l : List UInt8) : ∀ k, 1 + 7 * k ≤ l.length → Xc l k = ((List.range k).map (WP l), (1 + 7 * k, false))
 | 0, h => by
  show ([], (vQ l (0, false) 1).2) = _
  rw [vA (by omega)]
  rfl
 | k + 1, h => by
  show ((Xc l k).1 ++ [(W6 l (Xc l k).2).1], (W6 l (Xc l k).2).2) = _
  rw [W5 l k (by omega)]; simp only; rw [zhK (by omega), List.range_succ, List.map_append]
  rfl
theorem zeI (l : List UInt8) : beN (vQ l (0, false) 1).1 = Zg l := by
 unfold Zg
 by_cases h : 0 + 1 ≤ l.length
 ·rw [vA h]
 ·have : l = [] := List.length_eq_zero_iff.1 (by omega)
  subst this
  rfl
structure Tl (l : List UInt8) (st : Nat × Bool) (a b c d e : List UInt8) (s1 s2 s3 s4 s5 : Nat × Bool) : Prop where
 h1 : vQ l st 2 = (a, s1)
 h2 : vQ l s1 2 = (b, s2)
 h3 : vQ l s2 4 = (c, s3)
 h4 : vQ l s3 1 = (d, s4)
 h5 : vQ l s4 3 = (e, s5)
theorem zgG (l : List UInt8) (st : Nat × Bool) : ∃ a b c d e s1 s2 s3 s4 s5, Tl l st a b c d e s1 s2 s3 s4 s5 := ⟨_, _, _, _, _, _, _, _, _, _, ⟨rfl, rfl, rfl, rfl, rfl⟩⟩
theorem Tl.bad {l : List UInt8} {k : Nat} {a b c d e : List UInt8} {s1 s2 s3 s4 s5 : Nat × Bool} (h : Tl l (Xc l k).2 a b c d e s1 s2 s3 s4 s5) (hl : l.length < 13 + 7 * k) : s5.2 = true := by
 cases hs : s5.2 with
 | true => rfl
 | false =>
  obtain ⟨a1, a2, a3⟩ := ua (l := l) (st := s4) (m := 3) (by rw [h.h5]; exact hs)
  obtain ⟨b1, b2, b3⟩ := ua (l := l) (st := s3) (m := 1) (by rw [h.h4]; exact a1)
  obtain ⟨c1, c2, c3⟩ := ua (l := l) (st := s2) (m := 4) (by rw [h.h3]; exact b1)
  obtain ⟨d1, d2, d3⟩ := ua (l := l) (st := s1) (m := 2) (by rw [h.h2]; exact c1)
  obtain ⟨e1, e2, e3⟩ := ua (l := l) (st := (Xc l k).2) (m := 2) (by rw [h.h1]; exact d1)
  rw [h.h4] at b2; rw [h.h3] at c2; rw [h.h2] at d2; rw [h.h1] at e2; have f := (zeG l k e1).1; simp only at b2 c2 d2 e2; omega
theorem Tl.good {l : List UInt8} {k : Nat} {a b c d e : List UInt8} {s1 s2 s3 s4 s5 : Nat × Bool} (h : Tl l (Xc l k).2 a b c d e s1 s2 s3 s4 s5) (hl : 13 + 7 * k ≤ l.length) : s5.2 = false ∧ a = xW l (1 + 7 * k) 2 ∧ b = xW l (3 + 7 * k) 2 ∧ c = xW l (5 + 7 * k) 4 ∧ d = xW l (9 + 7 * k) 1 ∧ e = xW l (10 + 7 * k) 3 := by
 have h1 := h.h1
 rw [W5 l k (by omega)] at h1
 simp only at h1
 rw [vA (by omega)] at h1
 injection h1 with e1 e2
 have h2 := h.h2
 rw [← e2, vA (by omega)] at h2
 injection h2 with e3 e4
 have h3 := h.h3
 rw [← e4, vA (by omega)] at h3
 injection h3 with e5 e6
 have h4 := h.h4
 rw [← e6, vA (by omega)] at h4
 injection h4 with e7 e8
 have h5 := h.h5
 rw [← e8, vA (by omega)] at h5
 injection h5 with e9 e10
 rw [← e1, ← e3, ← e5, ← e7, ← e9, ← e10]
 refine ⟨rfl, rfl, ?_, ?_, ?_, ?_⟩ <;> (congr 1; omega)
theorem Tl.le {l : List UInt8} {st : Nat × Bool} {a b c d e : List UInt8} {s1 s2 s3 s4 s5 : Nat × Bool} (h : Tl l st a b c d e s1 s2 s3 s4 s5) (h0 : st.1 ≤ l.length) : s1.1 ≤ l.length ∧ s2.1 ≤ l.length ∧ s3.1 ≤ l.length ∧ s4.1 ≤ l.length := by
 have a1 := vY (m := 2) h0
 rw [h.h1] at a1
 have a2 := vY (m := 2) a1
 rw [h.h2] at a2
 have a3 := vY (m := 4) a2
 rw [h.h3] at a3
 have a4 := vY (m := 1) a3
 rw [h.h4] at a4
 exact ⟨a1, a2, a3, a4⟩
theorem YD {l : List UInt8} {st : Nat × Bool} {m : Nat} (hm : m ≤ 3) : beN (vQ l st m).1 < 16777216 :=
 Nat.lt_of_lt_of_le (JE _) (by rw [show (16777216 : Nat) = 256 ^ 3 from rfl]; exact Nat.pow_le_pow_right (by omega) (Nat.le_trans Jj hm))
theorem Kn {ops : Array Oper} {rest : List Oper} {o : Oper} {a : Act} {w : World} {Q : Exit → Act → World → Prop} (hg : o.guard = none) (x y : Operand) (ho : o.op = .store 28 x y) (b : Nat) (hx : a.eval x = .pointer (some ⟨b, 3, none⟩)) (q : Px) (hy : a.eval y = .agg #[.int .u8 q.r, .int .u8 q.g, .int .u8 q.b, .int .u8 q.a]) {v : Value} {s : jb} (ht : zw 30 w b (jg v s))
  (h : ∀ w', zw 30 w' b (jg v { s with col := q }) → qY b w w' → w'.heap.size = w.heap.size → wpList Tryz.prog ops Q rest (a.put o.dst undef) w') : wpList Tryz.prog ops Q (o :: rest) a w := by
 have c3 : w.cell? ⟨b, 3, none⟩ = some (.int .u8 s.col.r) := ht.cell 3 rfl
 have c4 : w.cell? ⟨b, 4, none⟩ = some (.int .u8 s.col.g) := ht.cell 4 rfl
 have c5 : w.cell? ⟨b, 5, none⟩ = some (.int .u8 s.col.b) := ht.cell 5 rfl
 have c6 : w.cell? ⟨b, 6, none⟩ = some (.int .u8 s.col.a) := ht.cell 6 rfl
 have hf := fun j => zw.frozen ht j
 refine qj hg x y ho ((((w.setCell ⟨b, 3, none⟩ (.int .u8 q.r)).setCell ⟨b, 4, none⟩ (.int .u8 q.g)).setCell ⟨b, 5, none⟩ (.int .u8 q.b)).setCell ⟨b, 6, none⟩ (.int .u8 q.a)) ?_ (h _ ?_ (((((qY.refl b w).setCell _).setCell _).setCell _).setCell _) (by simp only [World.size_setCell]))
 ·rw [hx, hy]
  simp [go_sem, c3, c4, c5, c6, hf]
 ·exact heap_setCell_same _ b 6 _ _ (.int .u8 q.a) (heap_setCell_same _ b 5 _ _ (.int .u8 q.b) (heap_setCell_same _ b 4 _ _ (.int .u8 q.g) (heap_setCell_same _ b 3 _ _ (.int .u8 q.r) ht)))
theorem ze7 (s t : ByteArray) : (s.toList == t.toList) = decide (s = t) := by
 rw [ByteArray.toList_eq, ByteArray.toList_eq]
 by_cases h : s = t
 ·rw [decide_eq_true h, h]; simp
 ·rw [decide_eq_false h, beq_eq_false_iff_ne]
  exact fun e => h (by rw [← XW s, ← XW t]; exact congrArg y5 e)
theorem za2 {a b : List UInt8} : y5 a = y5 b ↔ a = b := ⟨fun e => congrArg bytes e, fun e => by rw [e]⟩
theorem zeP (A B : List UInt8) (w : World) : (binOp .neq 9 (.string (y5 A)) (.string (y5 B))).run Tryz.prog w = .ok (.bool (!decide (A = B))) w := by
 have h : decide (y5 A = y5 B) = decide (A = B) := by
  by_cases e : A = B
  ·rw [decide_eq_true e, zQ (za2.2 e)]
  ·rw [decide_eq_false e, zB (fun k => e (za2.1 k))]
 simp [go_sem, ze7, h]
theorem zeO (t : TypeId) (x y : Operand) (A B : List UInt8) (w : World) : (eqGuard BinOp.neq t x y (.string (y5 A)) (.string (y5 B))).run Tryz.prog w = .ok () w := by first | rfl | simp [go_sem, eqGuard]
theorem zAB {o : Oper} {a : Act} {C : World → Prop} {K : Act → Prop} {x y : Operand} (h : o.op = .binOp .neq 9 x y 9) (A B : List UInt8) (hx : a.eval x = .string (y5 A)) (hy : a.eval y = .string (y5 B)) (z : Bool) (hz : (!decide (A = B)) = z) (hk : K (a.put o.dst (.bool z))) : o.quiet Tryz.prog a C K := by
 subst hz
 exact ⟨_, fun w hw => by unfold Oper.quietAt execOp; simp only [h, hx, hy, zeO, zeP A B w, Sem.run_bind, Sem.run_pure, Result.andThen_ok]; exact ⟨rfl, rfl⟩, hk⟩
theorem zal (l : List UInt8) (S : jb) (E : Int) (w : World) (hl : l.length ≤ 100000000) (e : Zp l = (S, E)) : Calls Tryz.prog 34 #[.string (y5 l)] w fun e w' => ∃ v, e = .returned (.tuple #[.agg (jg v S), .int .i64 E]) ∧ xh jf v S.pts w' ∧ Below w.heap.size w w' := by
 have B := Below.refl w.heap.size w
 have HE := zo e
 clear e
 obtain ⟨⟨x0, i0, f0⟩, hx0⟩ : ∃ t, vQ l (0, false) 1 = t := ⟨_, rfl⟩
 have hn0 : beN x0 = Zg l := by rw [← zeI, hx0]
 have h00 : Xc l 0 = ([], (i0, f0)) := by show ([], (vQ l (0, false) 1).2) = _; rw [hx0]
 have HX0 := zo hx0
 have H00 := zo h00
 clear hx0 h00
 have hpn : Zg l < 256 := by have := JE (xW l 0 1); unfold Zg; exact Nat.lt_of_lt_of_le this (by rw [show (256 : Nat) = 256 ^ 1 from rfl]; exact Nat.pow_le_pow_right (by omega) (by unfold xW; rw [List.length_take]; omega))
 obtain ⟨n, hn⟩ : ∃ n, Zg l = n := ⟨_, rfl⟩
 rw [hn] at hn0 hpn
 have HN := zo hn
 clear hn
 go_enter func34, ntmps34
 go_upto_region 0 with fail
 refine wp_region_lit ?_
 (refine jH (t := 30) (qn _ _ rfl) B ?_; clear B; intro b_r2 wn zb zd r2 za zf zk B)
 refine z7 1 ?_
 have k1 : w.heap.size ≤ b_r2 := by omega
 have hr2 := r2.lt
 go_upto_region 1 with fail
 refine qz 1 ?_
 refine xz (zE func86) (c := zfr l _) (h := ?_)
 rintro e wn ⟨b_rd, hb_rd, rfl, rd, za⟩
 obtain ⟨zf, zg, B⟩ := zM B za
 replace r2 := r2.be za
 refine ⟨_, rfl, ?_⟩
 simp only [zn]
 refine z7 1 ?_
 have k2 : b_r2 < b_rd := by omega
 have hrd := rd.lt
 go_upto_region 2 with fail
 refine wp_region_lit ?_
 (refine jH (t := 30) (qn _ _ rfl) B ?_; clear B; intro b_t5 wn zb zd t5 za zf zk B; replace r2 := r2.be za; replace rd := rd.be za)
 refine wpList_nil ?_
 have k3 : b_rd < b_t5 := by omega
 have ht5 := t5.lt
 obtain ⟨b1, hb1⟩ : ∃ n, n = wn.heap.size := ⟨_, rfl⟩
 have k4 : b_t5 < b1 := by omega
 have k5 : b1 ≤ wn.heap.size := by omega
 clear hb1 hr2 hrd ht5
 have od : qM jf b1 (.slice none 0 0) [] wn := qM.nil b1 wn
 replace t5 : zw 30 _ b_t5 (jg (.slice none 0 0) zSt) := t5
 go_upto_region 3 with fail
 refine qz 1 ?_
 refine xz (zE func87) (c := Ys l 0 false b_rd x0 i0 f0 _ rd hl (Nat.zero_le _) HX0.out) (h := ?_)
 rintro e wn ⟨rfl, rd2, ze⟩
 have zf := B.size
 have zg := ze.size
 replace B := qY.be B ze (by omega) B.size
 replace r2 := r2.cg ze
 replace t5 := t5.cg ze
 replace od := od.chg ze (by omega)
 clear rd
 have rd := rd2
 clear rd2
 refine ⟨_, rfl, ?_⟩
 simp only [zn]
 refine z7 1 ?_
 rw [hn0]
 have k6 : b1 ≤ wn.heap.size := by omega
 clear k5
 go_wp2
 go_loopw [6, 7, 13] (fun _ _ iv wr => ∃ (k i : Nat) (fl : Bool) (P : List Sp) (ap : Option Addr) (cp : Nat), k ≤ n ∧ iv = .int .i64 (k : Int) ∧ Hid (Xc l k = (P, (i, fl))) ∧ Below w.heap.size w wr ∧ b1 ≤ wr.heap.size ∧ zw 180 wr b_rd (XL l i fl) ∧ zw 30 wr b_r2 #[.slice none 0 0, .int .i64 0, .int .i64 0, .int .u8 0, .int .u8 0, .int .u8 0, .int .u8 0, .bool false, .int .i64 0] ∧ zw 30 wr b_t5 (jg (.slice ap P.length cp) zSt) ∧ qM jf b1 (.slice ap P.length cp) P wr) (fun _ _ iv _ => (n - intOf iv).toNat)
 case atStart => exact ⟨0, i0, f0, [], none, 0, by omega, rfl, H00, B, k6, rd, r2, t5, od⟩
 case round =>
  clear B k6 rd r2 t5 od HX0 H00; obtain ⟨k, i, fl, P, ap, cp, hk, rfl, HK, B, k6, rd, r2, t5, od⟩ := hrel; have hPn : P.length = k := by have := zba l k; rw [HK.out] at this; exact this
  have hi := zeH l k; rw [HK.out] at hi; simp only at hi; by_cases hkn : k < n
  ·have q1 : decide ((k : Int) < (n : Int)) = true := zQ (by omega)
   have q2 : decide (k < n) = true := zQ hkn; have hst : Xc l (k + 1) = (P ++ [(W6 l (i, fl)).1], (W6 l (i, fl)).2) := by
    show ((Xc l k).1 ++ [(W6 l (Xc l k).2).1], (W6 l (Xc l k).2).2) = _
    rw [HK.out]
   unfold W6 at hst; obtain ⟨⟨xa, ia, fa⟩, hxa⟩ : ∃ t, vQ l (i, fl) 3 = t := ⟨_, rfl⟩; have la := vY (m := 3) (st := (i, fl)) hi; have na := YD (l := l) (st := (i, fl)) (m := 3) (by omega); rw [hxa] at hst la na; simp only at hst la na; obtain ⟨⟨xb, ib, fb⟩, hxb⟩ : ∃ t, vQ l (ia, fa) 3 = t := ⟨_, rfl⟩; have lb := vY (m := 3) (st := (ia, fa)) la; have nb := YD (l := l) (st := (ia, fa)) (m := 3) (by omega); rw [hxb] at hst lb nb; simp only at hst lb nb; obtain ⟨⟨xc, ic, fc⟩, hxc⟩ : ∃ t, vQ l (ib, fb) 1 = t := ⟨_, rfl⟩; have nc := YD (l := l) (st := (ib, fb)) (m := 1) (by omega); rw [hxc] at hst nc; simp only at hst nc; have HA := zo hxa; have HB := zo hxb; have HC := zo hxc; have HST := zo hst; clear hxa hxb hxc hst HK; obtain ⟨na_, hna⟩ : ∃ n, beN xa = n := ⟨_, rfl⟩; obtain ⟨nb_, hnb⟩ : ∃ n, beN xb = n := ⟨_, rfl⟩; obtain ⟨nc_, hnc⟩ : ∃ n, beN xc = n := ⟨_, rfl⟩
   rw [hna] at na; rw [hnb] at nb; rw [hnc] at nc; rw [hna, hnb, hnc] at HST; go_upto_region 4 with fail
   refine zS 1 ?_; go_upto_region 5 with fail
   refine qz 1 ?_; refine xz (zE func87) (c := Yt l i fl b_rd xa ia fa _ rd hl hi HA.out) (h := ?_); rintro e wn ⟨rfl, rd2, ze⟩; have zf := B.size; have zg := ze.size; replace B := qY.be B ze (by omega) B.size; replace r2 := r2.cg ze; replace t5 := t5.cg ze; replace od := od.chg ze (by omega); clear rd; have rd := rd2; clear rd2; rw [hna]; refine ⟨_, rfl, ?_⟩; simp only [zn]; refine jL 2 ?_; refine xz (zE func87) (c := Yt l ia fa b_rd xb ib fb _ rd hl la HB.out) (h := ?_); rintro e wn ⟨rfl, rd2, ze⟩; have zf := B.size; have zg := ze.size; replace B := qY.be B ze (by omega) B.size; replace r2 := r2.cg ze; replace t5 := t5.cg ze
   replace od := od.chg ze (by omega); clear rd; have rd := rd2; clear rd2; rw [hnb]; refine ⟨_, rfl, ?_⟩; simp only [zn]; refine jL 2 ?_; refine xz (zE func87) (c := Ys l ib fb b_rd xc ic fc _ rd hl lb HC.out) (h := ?_); rintro e wn ⟨rfl, rd2, ze⟩; have zf := B.size; have zg := ze.size; replace B := qY.be B ze (by omega) B.size; replace r2 := r2.cg ze; replace t5 := t5.cg ze; replace od := od.chg ze (by omega); clear rd; have rd := rd2; clear rd2; rw [hnc]; refine ⟨_, rfl, ?_⟩; simp only [zn]; refine jL 1 ?_; obtain ⟨wM, hwM⟩ : ∃ z, z = wn := ⟨_, rfl⟩; subst hwM; have HOD := zo od; have BM := B; have hws := BM.size; have kM : b1 ≤ wM.heap.size := by omega
   have B := Below.refl wM.heap.size wM; have hlr2 := r2.lt; have hlt5 := t5.lt; have hlrd := rd.lt; clear od
   (refine jH (t := 43) (xn _ _ rfl) B ?_; clear B; intro b_t6 wn zb zd t6 za zf zk B; replace r2 := r2.be za; replace t5 := t5.be za; replace rd := rd.be za)
   (refine qZ (hone := (by simp [jf, Value.oneCell'])) t6 B ?_; clear t6 B; intro wn t6 ze zf zg B; replace r2 := r2.cg ze; replace t5 := t5.cg ze; replace rd := rd.cg ze)
   refine wpList_nil ?_; have od := HOD.out.be B; have B0 := BM.trans (B.mono hws); have k7 : b1 ≤ wn.heap.size := Nat.le_trans kM B.size; clear B; have B := B0; clear B0 BM; obtain ⟨p, hp⟩ : ∃ p : Sp, p = ⟨(na_ : Int) - 1048576, (nb_ : Int) - 1048576, (nc_ : Int)⟩ := ⟨_, rfl⟩; have t6p : zw 43 wn b_t6 (jf.enc p) := by rw [hp]; exact t6
   rw [← hp] at HST; clear t6 hp; have t6 := t6p; clear t6p; go_upto_region 6 with fail
   refine qz 3 ?_
   (refine yd (E := jf) rfl _ rfl (p) rfl (by omega) (kn B ?_); clear B; intro b_s1 wn zb zd s1 za zf zk B; replace od := od.be (za.mono zb); replace r2 := r2.be (za.mono zb); replace t5 := t5.be (za.mono zb); replace rd := rd.be (za.mono zb); simp only [zn])
   (at_builtin; refine jA rfl _ _ rfl _ _ rfl rfl od ((xh.one s1)) (by simp only [List.length_append, List.length_cons, List.length_nil]; omega) (by omega) ?_; intro v_od wn ht za; have zf := B.size; have hbz := za.size; replace B := B.trans (za.mono (by omega)); clear od; replace r2 := r2.of_eq (za.block _ (by omega)); replace t5 := t5.of_eq (za.block _ (by omega)); replace rd := rd.of_eq (za.block _ (by omega)); have od := ht; clear ht; obtain ⟨a_od, c_od, hv, hco⟩ := od.len; (try simp only [List.length_append, List.length_cons, List.length_nil, Nat.zero_add] at hv hco); subst hv; simp only [zn])
   refine z7 1 ?_; go_upto_region 7 with fail
   refine qz 2 ?_
   (refine yg (t := 30) rfl _ _ rfl _ 0 rfl _ _ _ rfl t5 rfl (xV B (by omega) ?_); clear t5 B; intro wn t5 ze zf zg B; replace r2 := r2.cg ze; replace rd := rd.cg ze; replace od := od.chg ze (by omega); simp only [zn])
   refine wpList_nil ?_; go_upto_region 8 with fail
   refine zS 2 ?_; go_wp2; go_roundw
   case rel => exact ⟨k + 1, ic, fc, P ++ [p], _, _, by omega, by go_num, HST, B, by omega, rd, r2, by rw [List.length_append]; exact t5, by rw [List.length_append]; exact od⟩
   case measure => simp [intOf]; omega
  ·have q1 : decide ((k : Int) < (n : Int)) = false := zB (by omega)
   have q2 : decide (k < n) = false := zB hkn; have hke : k = n := by omega
   subst hke; obtain ⟨a, b, c, d, e, ⟨i1, f1⟩, ⟨i2, f2⟩, ⟨i3, f3⟩, ⟨i4, f4⟩, ⟨i5, f5⟩, TL⟩ := zgG l (i, fl); obtain ⟨m1, m2, m3, m4⟩ := TL.le hi; simp only at m1 m2 m3 m4; have HT1 := zo TL.h1; have HT2 := zo TL.h2; have HT3 := zo TL.h3; have HT4 := zo TL.h4; have HT5 := zo TL.h5; have HTL := zo (show Tl l (Xc l k).2 a b c d e (i1, f1) (i2, f2) (i3, f3) (i4, f4) (i5, f5) from by rw [HK.out]; exact TL)
   clear TL; obtain ⟨na_, hna⟩ : ∃ n, beN a = n := ⟨_, rfl⟩; obtain ⟨nb_, hnb⟩ : ∃ n, beN b = n := ⟨_, rfl⟩; obtain ⟨nd_, hnd⟩ : ∃ n, beN d = n := ⟨_, rfl⟩; obtain ⟨ne_, hne⟩ : ∃ n, beN e = n := ⟨_, rfl⟩; have qd : ((nd_ : Int) == 1) = decide (nd_ = 1) := by
    by_cases h : nd_ = 1
    ·subst h; rfl
    ·rw [decide_eq_false h, beq_eq_false_iff_ne]; omega
   go_upto_region 4 with fail
   refine zS 1 ?_; go_upto_region 9 with fail
   refine qz 1 ?_; refine xz (zE func87) (c := zak l i fl b_rd a i1 f1 _ rd hl hi HT1.out) (h := ?_); rintro e wn ⟨rfl, rd2, ze⟩; have zf := B.size; have zg := ze.size; replace B := qY.be B ze (by omega) B.size; replace r2 := r2.cg ze; replace t5 := t5.cg ze; replace od := od.chg ze (by omega); clear rd; have rd := rd2; clear rd2; rw [hna]; refine ⟨_, rfl, ?_⟩; simp only [zn]; refine jL 1 ?_; refine xz (zE func87) (c := zak l i1 f1 b_rd b i2 f2 _ rd hl m1 HT2.out) (h := ?_); rintro e wn ⟨rfl, rd2, ze⟩; have zf := B.size; have zg := ze.size; replace B := qY.be B ze (by omega) B.size; replace r2 := r2.cg ze; replace t5 := t5.cg ze
   replace od := od.chg ze (by omega); clear rd; have rd := rd2; clear rd2; rw [hnb]; refine ⟨_, rfl, ?_⟩; simp only [zn]; refine jL 1 ?_
   (refine xr (t := 30) rfl _ _ rfl _ 1 rfl _ rfl t5 rfl (xV B (by omega) ?_); clear t5 B; intro wn t5 ze zf zg B; replace od := od.chg ze (by omega); replace r2 := r2.cg ze; replace rd := rd.cg ze; simp only [zn])
   refine jL 1 ?_
   (refine xr (t := 30) rfl _ _ rfl _ 2 rfl _ rfl t5 rfl (xV B (by omega) ?_); clear t5 B; intro wn t5 ze zf zg B; replace od := od.chg ze (by omega); replace r2 := r2.cg ze; replace rd := rd.cg ze; simp only [zn])
   refine wpList_nil ?_; replace t5 : zw 30 _ b_t5 (jg (.slice ap P.length cp) ⟨P, (na_ : Int), (nb_ : Int), Px.zero, false, 0⟩) := t5; go_upto_region 10 with fail
   refine qz 1 ?_; refine xz (zE func88) (c := Q8 l i2 f2 b_rd 4 4 c i3 f3 _ rd hl m2 (by omega) rfl HT3.out) (h := ?_); rintro e wn ⟨rfl, rd2, ze⟩; have zf := B.size; have zg := ze.size; replace B := qY.be B ze (by omega) B.size; replace r2 := r2.cg ze; replace t5 := t5.cg ze; replace od := od.chg ze (by omega); clear rd; have rd := rd2; clear rd2; refine ⟨_, rfl, ?_⟩; simp only [zn]; refine z7 1 ?_; go_upto_region 11 with fail
   refine qz 1 ?_; refine xz (zE func87) (c := Ys l i3 f3 b_rd d i4 f4 _ rd hl m3 HT4.out) (h := ?_); rintro e wn ⟨rfl, rd2, ze⟩; have zf := B.size; have zg := ze.size; replace B := qY.be B ze (by omega) B.size; replace r2 := r2.cg ze; replace t5 := t5.cg ze; replace od := od.chg ze (by omega); clear rd; have rd := rd2; clear rd2; rw [hnd]; refine ⟨_, rfl, ?_⟩; simp only [zn]; refine jL 2 ?_
   (refine uV (t := 30) rfl _ _ rfl _ 7 rfl _ rfl t5 rfl (xV B (by omega) ?_); clear t5 B; intro wn t5 ze zf zg B; replace od := od.chg ze (by omega); replace r2 := r2.cg ze; replace rd := rd.cg ze; simp only [zn])
   refine wpList_nil ?_; replace t5 : zw 30 _ b_t5 (jg (.slice ap P.length cp) ⟨P, (na_ : Int), (nb_ : Int), Px.zero, decide (nd_ = 1), 0⟩) := t5; go_upto_region 12 with fail
   refine qz 1 ?_; refine xz (zE func87) (c := Yt l i4 f4 b_rd e i5 f5 _ rd hl m4 HT5.out) (h := ?_); rintro e wn ⟨rfl, rd2, ze⟩; have zf := B.size; have zg := ze.size; replace B := qY.be B ze (by omega) B.size; replace r2 := r2.cg ze; replace t5 := t5.cg ze; replace od := od.chg ze (by omega); clear rd; have rd := rd2; clear rd2; rw [hne]; refine ⟨_, rfl, ?_⟩; simp only [zn]; refine jL 1 ?_
   (refine xr (t := 30) rfl _ _ rfl _ 8 rfl _ rfl t5 rfl (xV B (by omega) ?_); clear t5 B; intro wn t5 ze zf zg B; replace od := od.chg ze (by omega); replace r2 := r2.cg ze; replace rd := rd.cg ze; simp only [zn])
   refine wpList_nil ?_; replace t5 : zw 30 _ b_t5 (jg (.slice ap P.length cp) ⟨P, (na_ : Int), (nb_ : Int), Px.zero, decide (nd_ = 1), (ne_ : Int)⟩) := t5; go_upto_region 13 with fail
   refine qz 1 ?_; refine qe B (zE func89) (c := zbs l i5 f5 b_rd _ rd) ?_; clear B; intro wn za zf zg B
   replace r2 := r2.be za
   replace t5 := t5.be za
   replace od := od.be za; refine wpList_nil ?_; by_cases hsh : l.length < 13 + 7 * k
   ·have h5 : f5 = true := HTL.out.bad hsh
    subst h5; have hS := HE.out; rw [Xd (by rw [HN.out]; exact hsh)] at hS
    injection hS with e1 e2
    subst e1 e2; clear od; go_upto_region 14 with fail
    refine wp_region_lit ?_
    (refine qH rfl (.agg #[.slice none 0 0, .int .i64 0, .int .i64 0, .int .u8 0, .int .u8 0, .int .u8 0, .int .u8 0, .bool false, .int .i64 0]) (by kernel_rfl) ?_; simp only [zn])
    (refine qZ (hone := (by simp [jg, Value.oneCell'])) r2 B ?_; clear r2 B; intro wn r2 ze zf zg B; replace t5 := t5.cg ze)
    refine z7 1 ?_; first | (refine yP r2 ?_) | (go_step; refine yP r2 ?_) | (go_step; go_step; refine yP r2 ?_) | (go_step; go_step; go_step; refine yP r2 ?_) | (go_step; go_step; go_step; go_step; refine yP r2 ?_) | (go_step; go_step; go_step; go_step; go_step; refine yP r2 ?_) | (go_step; go_step; go_step; go_step; go_step; go_step; refine yP r2 ?_) | (go_step; go_step; go_step; go_step; go_step; go_step; go_step; refine yP r2 ?_)
    exact ⟨.slice none 0 0, rfl, (qM.nil (E := jf) 0 wn).rs, B⟩
   ·obtain ⟨h5, ea, eb, ec, ed, ee⟩ := HTL.out.good (by omega)
    simp only at h5; subst h5; have hcl : c.length = 4 := by rw [ec]; exact ze8 (by omega)
    obtain ⟨g0, hg0⟩ : ∃ n, (c.getD 0 0).toNat = n := ⟨_, rfl⟩; obtain ⟨g1, hg1⟩ : ∃ n, (c.getD 1 0).toNat = n := ⟨_, rfl⟩; obtain ⟨g2, hg2⟩ : ∃ n, (c.getD 2 0).toNat = n := ⟨_, rfl⟩; obtain ⟨g3, hg3⟩ : ∃ n, (c.getD 3 0).toNat = n := ⟨_, rfl⟩; have hcc : ∀ j, j < 4 → c.getD j 0 = l.getD (5 + 7 * k + j) 0 := fun j hj => by
     rw [List.getD_eq_getElem?_getD, List.getD_eq_getElem?_getD, ec, zbe hj]
    have hPar : XB l = ⟨P, (na_ : Int), (nb_ : Int), ⟨(g0 : Int), (g1 : Int), (g2 : Int), (g3 : Int)⟩, decide (nd_ = 1), (ne_ : Int)⟩ := by
     have hk := HK.out; rw [W5 l k (by omega)] at hk
     injection hk with hP _
     unfold XB; rw [HN.out]; unfold pkS WO; rw [hP, ← ea, ← eb, ← ed, ← ee, hna, hnb, hnd, hne, ← hcc 1 (by omega), ← hcc 2 (by omega), ← hcc 3 (by omega), hg1, hg2, hg3]; have h0 := hcc 0 (by omega); rw [Nat.add_zero] at h0; rw [← h0, hg0]
    have okC : (⟨(g0 : Int), (g1 : Int), (g2 : Int), (g3 : Int)⟩ : Px).ok := by
     have := zgs l (5 + 7 * Zg l); have e9 : (XB l).col = WO l (5 + 7 * Zg l) := rfl; rw [← e9, hPar] at this; exact this
    have HPAR := zo hPar; have OKC := zo okC; have HG0 := zo hg0; have HG1 := zo hg1; have HG2 := zo hg2; have HG3 := zo hg3; clear hPar okC hg0 hg1 hg2 hg3 ea eb ec ed ee hcc; have hPs : P.length ≤ 255 := by omega
    go_upto_region 15 with fail
    refine zA 10 [] (by kernel_rfl) (by kernel_rfl) (by kernel_rfl) ?_
    rotate_left 0
    simp only [jS, Nat.reduceAdd]; refine vV 10 ?_; repeat (first | go_big_quiet_skip | (go_big_quiet_want; first | ((first | refine vn rfl c rfl _ rfl 0 g0 (by omega) (by first | rfl | omega) HG0.out ?_ | refine vn rfl c rfl _ rfl 1 g1 (by omega) (by first | rfl | omega) HG1.out ?_ | refine vn rfl c rfl _ rfl 2 g2 (by omega) (by first | rfl | omega) HG2.out ?_ | refine vn rfl c rfl _ rfl 3 g3 (by omega) (by first | rfl | omega) HG3.out ?_ | refine qB ?_ | refine qC ?_); simp only [zn]; go_big_quiet_on) | (go_big_quiet_op; go_big_quiet_on)))
    refine wpQuiet_nil ?_; refine qi ?_; intro wn za hE; obtain ⟨zf, zg, B⟩ := zM B za
    replace r2 := r2.be za
    replace t5 := t5.be za
    replace od := od.be za
    clear hE; try simp only [List.drop_succ_cons, List.drop_zero]
    (refine Kn rfl _ _ rfl _ rfl ⟨(g0 : Int), (g1 : Int), (g2 : Int), (g3 : Int)⟩ rfl t5 (xV B (by omega) ?_); clear t5 B; intro wn t5 ze zf zg B; replace od := od.chg ze (by omega); replace r2 := r2.cg ze; simp only [zn])
    refine wpList_nil ?_; refine zI.normal ?_; obtain ⟨s1, hs1⟩ : ∃ s : jb, s = ⟨P, (na_ : Int), (nb_ : Int), ⟨(g0 : Int), (g1 : Int), (g2 : Int), (g3 : Int)⟩, decide (nd_ = 1), (ne_ : Int)⟩ := ⟨_, rfl⟩; replace t5 : zw 30 wn b_t5 (jg (.slice ap P.length cp) s1) := by rw [hs1]; exact t5
    have hsp : s1.pts = P := by rw [hs1]
    have hsc : s1.col.ok := by rw [hs1]; exact OKC.out
    rw [← hs1] at HPAR; have rsP : xh jf (.slice ap P.length cp) s1.pts wn := by rw [hsp]; exact od.rs
    have hsn : s1.pts.length ≤ 17592186044416 := by rw [hsp]; omega
    obtain ⟨Lb, hLb⟩ : ∃ b, yX s1 = b := ⟨_, rfl⟩; have HLB := zo hLb; have HSC := zo hsc; clear hs1 hLb hsc; have hpl : ¬ l.length < 13 + 7 * Zg l := by rw [HN.out]; exact hsh
    by_cases heq : Lb = l
    ·have hz : (!decide (Lb = l)) = false := by rw [decide_eq_true heq]; rfl
     have hS := HE.out; rw [zgx hpl (by rw [HPAR.out, HLB.out]; exact heq), HPAR.out] at hS
     injection hS with e1 e2
     subst e1 e2; go_upto_region 16 with fail
     refine wp_region_lit ?_; refine jD 1 ?_
     repeat (first | go_big_quiet_skip | (go_big_quiet_want; first | ((first | refine zAB rfl Lb l rfl rfl false hz ?_ | refine qB ?_ | refine qC ?_); simp only [zn]; go_big_quiet_on) | (go_big_quiet_op; go_big_quiet_on)))
     refine wpQuiet_nil ?_; refine qe B (zE func33) (c := Jp _ s1 Lb _ rsP hsn HSC.out HLB.out) ?_; clear B; intro wn za zf zg B
     replace r2 := r2.be za
     replace t5 := t5.be za
     replace rsP := rsP.be za
     replace od := od.be za; refine jD 2 ?_; repeat (first | go_big_quiet_skip | (go_big_quiet_want; first | ((first | refine zAB rfl Lb l rfl rfl false hz ?_ | refine qB ?_ | refine qC ?_); simp only [zn]; go_big_quiet_on) | (go_big_quiet_op; go_big_quiet_on)))
     refine wpQuiet_nil ?_; refine wpList_nil ?_; have HODP := zo od; have hlr2 := r2.lt; go_upto_region 18 with fail
     refine qz 1 ?_
     (refine qZ (hone := (by simp [jg, Value.oneCell'])) r2 B ?_; clear r2 B; intro wn r2 ze zf zg B; replace rsP : xh jf (.slice ap P.length cp) s1.pts wn := (by rw [hsp]; exact (qM.chg HODP.out ze (by omega)).rs); replace t5 := t5.cg ze)
     refine z7 1 ?_; first | (refine yP r2 ?_) | (go_step; refine yP r2 ?_) | (go_step; go_step; refine yP r2 ?_) | (go_step; go_step; go_step; refine yP r2 ?_) | (go_step; go_step; go_step; go_step; refine yP r2 ?_) | (go_step; go_step; go_step; go_step; go_step; refine yP r2 ?_) | (go_step; go_step; go_step; go_step; go_step; go_step; refine yP r2 ?_) | (go_step; go_step; go_step; go_step; go_step; go_step; go_step; refine yP r2 ?_)
     exact ⟨_, rfl, rsP, B⟩
    ·have hz : (!decide (Lb = l)) = true := by rw [decide_eq_false heq]; rfl
     have hS := HE.out; rw [zcj hpl (by rw [HPAR.out, HLB.out]; exact heq)] at hS
     injection hS with e1 e2
     subst e1 e2; go_upto_region 16 with fail
     refine wp_region_lit ?_; refine jD 1 ?_
     repeat (first | go_big_quiet_skip | (go_big_quiet_want; first | ((first | refine zAB rfl Lb l rfl rfl true hz ?_ | refine qB ?_ | refine qC ?_); simp only [zn]; go_big_quiet_on) | (go_big_quiet_op; go_big_quiet_on)))
     refine wpQuiet_nil ?_; refine qe B (zE func33) (c := Jp _ s1 Lb _ rsP hsn HSC.out HLB.out) ?_; clear B; intro wn za zf zg B
     replace r2 := r2.be za; refine jD 2 ?_; repeat (first | go_big_quiet_skip | (go_big_quiet_want; first | ((first | refine zAB rfl Lb l rfl rfl true hz ?_ | refine qB ?_ | refine qC ?_); simp only [zn]; go_big_quiet_on) | (go_big_quiet_op; go_big_quiet_on)))
     refine wpQuiet_nil ?_; refine wpList_nil ?_; go_upto_region 17 with fail
     refine wp_region_lit ?_
     (refine qH rfl (.agg #[.slice none 0 0, .int .i64 0, .int .i64 0, .int .u8 0, .int .u8 0, .int .u8 0, .int .u8 0, .bool false, .int .i64 0]) (by kernel_rfl) ?_; simp only [zn])
     (refine qZ (hone := (by simp [jg, Value.oneCell'])) r2 B ?_; clear r2 B; intro wn r2 ze zf zg B)
     refine z7 1 ?_; first | (refine yP r2 ?_) | (go_step; refine yP r2 ?_) | (go_step; go_step; refine yP r2 ?_) | (go_step; go_step; go_step; refine yP r2 ?_) | (go_step; go_step; go_step; go_step; refine yP r2 ?_) | (go_step; go_step; go_step; go_step; go_step; refine yP r2 ?_) | (go_step; go_step; go_step; go_step; go_step; go_step; refine yP r2 ?_) | (go_step; go_step; go_step; go_step; go_step; go_step; go_step; refine yP r2 ?_)
     exact ⟨.slice none 0 0, rfl, (qM.nil (E := jf) 0 wn).rs, B⟩
def prC (v : Value) (s : jb) (u : Value) (t : jb) (n : Int) : Array Value := #[v, .int .i64 s.rad, .int .i64 s.spa, .int .u8 s.col.r, .int .u8 s.col.g, .int .u8 s.col.b, .int .u8 s.col.a, .bool s.era, .int .i64 s.pha, u, .int .i64 t.rad, .int .i64 t.spa, .int .u8 t.col.r, .int .u8 t.col.g, .int .u8 t.col.b, .int .u8 t.col.a, .bool t.era, .int .i64 t.pha, .int .i64 n]
def jb.none : jb := ⟨[], 0, 0, Px.zero, false, 0⟩
theorem X7 {f : Nat} (hf : f < 3) (v : Value) (a' : Sp) : ∀ (l : List Sp) (i : Nat), i < l.length → jf.enc a' = (jf.enc (jc l i)).setIfInBounds f v → (xO jf l).set (i * 3 + f) v = xO jf (l.set i a')
 | [], i, h, _ => absurd h (Nat.not_lt_zero _)
 | a :: r, 0, _, he => by
  have he : jf.enc a' = (jf.enc a).setIfInBounds f v := he; show ((jf.enc a).toList ++ xO jf r).set (0 * 3 + f) v = (jf.enc a').toList ++ xO jf r
  rw [List.set_append_left _ _ (by rw [Array.length_toList, jf.size]; omega), he, Array.toList_setIfInBounds, Nat.zero_mul, Nat.zero_add]
 | a :: r, i + 1, h, he => by
  have he : jf.enc a' = (jf.enc (jc r i)).setIfInBounds f v := he; show ((jf.enc a).toList ++ xO jf r).set ((i + 1) * 3 + f) v = (jf.enc a).toList ++ xO jf (r.set i a')
  have hl : (jf.enc a).toList.length = 3 := by rw [Array.length_toList, jf.size]
  rw [List.set_append_right _ _ (by rw [hl]; omega), hl, ← X7 hf v a' r i (by simpa using h) he]
  congr 2
  omega
theorem qM.setF {B g n c : Nat} {l : List Sp} {w : World} (h : qM jf B (.slice (some ⟨g, 0, none⟩) n c) l w) (hn : n = l.length) {i f : Nat} (hi : i < l.length) (hf : f < 3) (z : Int) (a' : Sp) (he : jf.enc a' = (jf.enc (jc l i)).setIfInBounds f (.int .i64 z)) : qM jf B (.slice (some ⟨g, 0, none⟩) n c) (l.set i a') (w.setCell ⟨g, i * 3 + f, none⟩ (.int .i64 z)) := by
 obtain ⟨h1, h2⟩ := h
 rcases h2 with ⟨e, _⟩ | ⟨g', cap, cur, e, hg, hx, k1, k2, k3, k4⟩
 ·cases e
 ·injection e with e1 e2 e3
  injection e1 with e1
  injection e1 with e1 _ _
  subst e1 e3; have hr := X7 hf (.int .i64 z) a' l i hi he; refine ⟨by rw [← hr, List.length_set, h1]; simp, .inr ⟨g, c, cur.setIfInBounds (i * 3 + f) (.int .i64 z), by rw [List.length_set, hn], hg, heap_setCell_same w g (i * 3 + f) cur _ _ hx, by rw [List.length_set, ← hn, e2]; exact k1, k2, by rw [Array.size_setIfInBounds]; exact k3, ?_⟩⟩
  rw [← hr, ← k4, Array.toList_setIfInBounds, List.length_set, List.take_set]
theorem ki {ops : Array Oper} {rest : List Oper} {o : Oper} {a : Act} {w : World} {Q : Exit → Act → World → Prop} (hg : o.guard = none) (x y : Operand) (ho : o.op = .store 3 x y) (g j : Nat) (hx : a.eval x = .pointer (some ⟨g, j, none⟩)) (z : Int) (hy : a.eval y = .int .i64 z) {B n c : Nat} {l : List Sp} (h : qM jf B (.slice (some ⟨g, 0, none⟩) n c) l w) (hn : n = l.length) (i f : Nat) (hi : i < l.length) (hf : f < 3) (hj : j = i * 3 + f) (a' : Sp) (he : jf.enc a' = (jf.enc (jc l i)).setIfInBounds f (.int .i64 z))
  (hk : ∀ w', qM jf B (.slice (some ⟨g, 0, none⟩) n c) (l.set i a') w' → qY g w w' → w'.heap.size = w.heap.size → wpList Tryz.prog ops Q rest (a.put o.dst undef) w') : wpList Tryz.prog ops Q (o :: rest) a w := by
 subst hj
 obtain ⟨cs, hcs⟩ := h.block (b := g) rfl
 have f0 := (qf hcs).2 (i * 3 + f)
 have c0 : ∃ u, w.cell? ⟨g, i * 3 + f, none⟩ = some u := by
  obtain ⟨g2, o2, e2, rc⟩ := h.rs.at (by omega); obtain ⟨rfl, rfl⟩ : g = g2 ∧ 0 = o2 := by simpa using e2
  have h1 := rc.2 i (jc l i) (qG hi) f hf; rw [Nat.zero_add] at h1; have hs : f < (jf.enc (jc l i)).size := by rw [jf.size]; exact hf
  exact ⟨_, h1.trans (Array.getElem?_eq_getElem hs)⟩
 obtain ⟨u, c0⟩ := c0
 refine qj hg x y ho (w.setCell ⟨g, i * 3 + f, none⟩ (.int .i64 z)) ?_ (hk _ (h.setF hn hi hf z a' he) ((qY.refl g w).setCell _) (by simp only [World.size_setCell]))
 rw [hx, hy]
 simp [go_sem, c0, f0]
def shK (X Y : Int) (l : List Sp) (k : Nat) : List Sp := (l.take k).map (shP X Y) ++ l.drop k
theorem zgB (X Y : Int) (l : List Sp) (k : Nat) : (shK X Y l k).length = l.length := by
 unfold shK
 rw [List.length_append, List.length_map, List.length_take, List.length_drop]
 omega
theorem zhQ (X Y : Int) {l : List Sp} {k : Nat} (h : k < l.length) : (shK X Y l k)[k]? = some (jc l k) := by
 unfold shK
 rw [List.getElem?_append_right (by simp; omega), List.length_map, List.length_take, Nat.min_eq_left (by omega), Nat.sub_self, List.getElem?_drop, Nat.add_zero]
 exact qG h
theorem zeV (X Y : Int) {l : List Sp} {k : Nat} (h : k < l.length) : (shK X Y l k).set k (shP X Y (jc l k)) = shK X Y l (k + 1) := by
 have hd : l.drop k = jc l k :: l.drop (k + 1) := by
  rw [List.drop_eq_getElem_cons h]; have e := qG h; rw [List.getElem?_eq_getElem h] at e; rw [Option.some.inj e]
 unfold shK
 rw [hd, List.set_append_right _ _ (by simp; omega), List.length_map, List.length_take, Nat.min_eq_left (by omega), Nat.sub_self, List.set_cons_zero, List.take_add_one, qG h, List.map_append, List.append_assoc]
 rfl
theorem zeu {l : List Sp} {k : Nat} {a : Sp} (h : l[k]? = some a) : jc l k = a := by
 unfold jc
 rw [List.getD_eq_getElem?_getD, h]
 rfl
theorem zbt (v : Value) (s : jb) (X Y : Int) (w : World) (rs : xh jf v s.pts w) (hn : s.pts.length ≤ 100000) (hX : -1000000 ≤ X ∧ X ≤ 1000000) (hY : -1000000 ≤ Y ∧ Y ≤ 1000000) (hok : ∀ a ∈ s.pts, (-1000000000 ≤ a.x ∧ a.x ≤ 1000000000) ∧ (-1000000000 ≤ a.y ∧ a.y ≤ 1000000000)) : Calls Tryz.prog 39 #[.agg (jg v s), .int .i64 X, .int .i64 Y] w fun e w' => ∃ v', e = .returned (.agg (jg v' (shS X Y s))) ∧ qM jf w.heap.size v' (shS X Y s).pts w' ∧ Below w.heap.size w w' := by
 have B := Below.refl w.heap.size w
 obtain ⟨a, c, rfl, hc⟩ := rs.len
 have HOK := zo hok
 clear hok
 go_enter func39, ntmps39
 go_upto_region 0 with fail
 refine wp_region_lit ?_
 (refine jd (t := 30) B ?_; clear B; intro b_r3 wn zb zd r3 za zf zk B; replace rs := rs.be za)
 (refine jH (t := 30) (qn _ _ rfl) B ?_; clear B; intro b_r6 wn zb zd r6 za zf zk B; replace r3 := r3.be za; replace rs := rs.be za)
 refine wpList_nil ?_
 have k1 : w.heap.size ≤ b_r3 := by omega
 have k2 : b_r3 < b_r6 := by have := r3.lt; omega
 have k3 := r6.lt
 obtain ⟨b0, hb0⟩ : ∃ b, b = wn.heap.size := ⟨_, rfl⟩
 have hb6 : b_r6 < b0 := by omega
 have HB0 := zo hb0
 clear hb0
 go_upto_region 1 with fail
 refine qz 2 ?_
 refine xz (zE func69) (c := Jq _ s.pts _ rs hn) (h := ?_)
 rintro e wn ⟨a4, c4, rfl, od, za⟩
 obtain ⟨zf, zg, B⟩ := zM B za
 replace r3 := r3.be za
 replace r6 := r6.be za
 rw [← HB0.out] at od
 refine ⟨_, rfl, ?_⟩
 simp only [zn]
 refine jL 1 ?_
 (refine yg (t := 30) rfl _ _ rfl _ 0 rfl _ _ _ rfl r3 rfl (xV B (by omega) ?_); clear r3 B; intro wn r3 ze zf zg B; replace od := od.chg ze (by omega); replace r6 := r6.cg ze; simp only [zn])
 refine wpList_nil ?_
 replace r3 : zw 30 _ b_r3 (jg (.slice a4 s.pts.length c4) s) := r3
 go_upto_region 2 with fail
 refine qz 2 ?_
 refine j1 underlying26 ?_
 refine z7 1 ?_
 clear rs
 go_wp2
 go_loopw [7, 15] (fun _ iv wr => ∃ (k : Nat) (P : List Sp), k ≤ s.pts.length ∧ iv = .int .i64 (k : Int) ∧ Hid (shK X Y s.pts k = P) ∧ Below w.heap.size w wr ∧ zw 30 wr b_r3 (jg (.slice a4 s.pts.length c4) s) ∧ zw 30 wr b_r6 #[.slice none 0 0, .int .i64 0, .int .i64 0, .int .u8 0, .int .u8 0, .int .u8 0, .int .u8 0, .bool false, .int .i64 0] ∧ qM jf b0 (.slice a4 s.pts.length c4) P wr) (fun _ iv _ => (s.pts.length - intOf iv).toNat)
 case atStart => exact ⟨0, s.pts, by omega, rfl, zo rfl, B, r3, r6, od⟩
 case round =>
  clear B r3 r6 od; obtain ⟨k, P, hk, rfl, HP, B, r3, r6, od⟩ := hrel; have hPn : s.pts.length = P.length := by rw [← HP.out, zgB]
  have r6l := r6.lt; by_cases hkl : k < s.pts.length
  ·have q1 : decide ((k : Int) < (s.pts.length : Int)) = true := zQ (by omega)
   have q2 : decide (k < s.pts.length) = true := zQ hkl; have hkp : k < P.length := by omega
   obtain ⟨g, o, e1, pc⟩ := od.rs.at (by omega); subst e1; have hbk := od.block (b := g) rfl; have hgb : b0 ≤ g := (World.ownsRow.lt od g rfl).1; obtain rfl : o = 0 := by
    obtain ⟨_, h2⟩ := od; rcases h2 with ⟨e, _⟩ | ⟨g', cap, cur, e, _⟩
    ·cases e
    ·injection e with e1 _ _
     injection e1 with e1
     injection e1
   have hp : P[k]? = some (jc s.pts k) := by rw [← HP.out]; exact zhQ X Y hkl
   have hb := HOK.out _ (List.mem_of_getElem? (qG hkl)); have HN0 := zo (zeV X Y hkl); rw [HP.out] at HN0; obtain ⟨x1, hx1⟩ : ∃ x, jc s.pts k = x := ⟨_, rfl⟩; rw [hx1] at hp hb HN0; have HPX := zo (zeu hp); obtain ⟨P2, hP2⟩ : ∃ l, P.set k ⟨x1.x + 16 * X, x1.y, x1.p⟩ = l := ⟨_, rfl⟩; have hPn2 : s.pts.length = P2.length := by rw [← hP2, List.length_set]; exact hPn
   have hkp2 : k < P2.length := by omega
   have hp2 : P2[k]? = some ⟨x1.x + 16 * X, x1.y, x1.p⟩ := by rw [← hP2, List.getElem?_set_self hkp]
   have HPX2 := zo (zeu hp2); have HP2 := zo hP2; have HN := zo (show P2.set k ⟨x1.x + 16 * X, x1.y + 16 * Y, x1.p⟩ = shK X Y s.pts (k + 1) from by rw [← HN0.out, ← hP2, List.set_set]; rfl)
   clear hx1 hP2; obtain ⟨⟨hb1, hb2⟩, hb3, hb4⟩ := hb; have hpcl := pc.lt; go_upto_region 3 with fail
   refine zS 1 ?_; go_upto_region 4 with fail
   refine zS 2 ?_; go_upto_region 5 with fail
   refine wp_region_lit ?_; refine jD 11 ?_
   repeat (first | go_big_quiet_skip | (go_big_quiet_want; first | ((first | refine zq (fun w hw => qt (zeY (qD pc w hw) hp)) ?_ | refine qB ?_ | refine qC ?_); simp only [zn]; go_big_quiet_on) | (go_big_quiet_op; go_big_quiet_on)))
   refine wpQuiet_nil ?_
   (refine ki rfl _ _ rfl _ _ rfl _ rfl od hPn k 0 hkp (by omega) (by omega) ⟨x1.x + 16 * X, x1.y, x1.p⟩ (by rw [HPX.out]; rfl) ?_; clear od; intro wn od ze zg; have zf := B.size; replace zg := Nat.le_of_eq zg.symm; replace B := qY.be B ze (by omega) B.size; replace r3 := r3.cg ze; replace r6 := r6.cg ze; simp only [zn])
   refine wpList_nil ?_; rw [HP2.out] at od; clear pc; obtain ⟨g2, o2, e2, pc⟩ := od.rs.at (by omega); obtain ⟨rfl, rfl⟩ : g = g2 ∧ 0 = o2 := by simpa using e2
   go_upto_region 6 with fail
   refine wp_region_lit ?_; refine jD 11 ?_
   repeat (first | go_big_quiet_skip | (go_big_quiet_want; first | ((first | refine zq (fun w hw => qt (zeZ (qD pc w hw) hp2)) ?_ | refine qB ?_ | refine qC ?_); simp only [zn]; go_big_quiet_on) | (go_big_quiet_op; go_big_quiet_on)))
   refine wpQuiet_nil ?_
   (refine ki rfl _ _ rfl _ _ rfl _ rfl od hPn2 k 1 hkp2 (by omega) (by omega) ⟨x1.x + 16 * X, x1.y + 16 * Y, x1.p⟩ (by rw [HPX2.out]; rfl) ?_; clear od; intro wn od ze zg; have zf := B.size; replace zg := Nat.le_of_eq zg.symm; replace B := qY.be B ze (by omega) B.size; replace r3 := r3.cg ze; replace r6 := r6.cg ze; simp only [zn])
   refine wpList_nil ?_; rw [HN.out] at od; clear pc; go_upto_region 7 with fail
   refine zS 2 ?_; go_wp2; go_roundw
   case rel => exact ⟨k + 1, _, by omega, by go_num, zo rfl, B, r3, r6, od⟩
   case measure => simp [intOf]; omega
  ·have q1 : decide ((k : Int) < (s.pts.length : Int)) = false := zB (by omega)
   have q2 : decide (k < s.pts.length) = false := zB hkl; have HF := zo (show (shS X Y s).pts = P from by
    rw [← HP.out, show k = s.pts.length by omega]; show s.pts.map (shP X Y) = (s.pts.take s.pts.length).map (shP X Y) ++ s.pts.drop s.pts.length
    rw [List.take_length, List.drop_length, List.append_nil])
   go_upto_region 3 with fail
   refine zS 1 ?_; go_upto_region 8 with fail
   refine qz 1 ?_
   (refine qZ (hone := (by simp [jg, Value.oneCell'])) r6 B ?_; clear r6 B; intro wn r6 ze zf zg B; replace od := od.chg ze (by omega))
   refine wpList_nil ?_; first | (refine qO r6 ?_) | (go_step; refine qO r6 ?_) | (go_step; go_step; refine qO r6 ?_) | (go_step; go_step; go_step; refine qO r6 ?_) | (go_step; go_step; go_step; go_step; refine qO r6 ?_) | (go_step; go_step; go_step; go_step; go_step; refine qO r6 ?_)
   have e4 : jg (.slice a4 s.pts.length c4) s = jg (.slice a4 s.pts.length c4) (shS X Y s) := rfl; rw [HF.out, e4]; exact ⟨_, rfl, od.mono (by have := HB0.out; omega), B⟩
theorem wS (r : Rc) (b : Bool) (w : World) (e : jk r = b) : Calls Tryz.prog 146 #[.agg (jP r)] w fun e w' => e = .returned (.bool b) ∧ Below w.heap.size w w' := e ▸ uE r w
theorem Jw (r : Rc) (n : Int) (w : World) (h : jk r = true) (e : yV r = n) : Calls Tryz.prog 147 #[.agg (jP r)] w fun e w' => e = .returned (.int .i64 n) ∧ Below w.heap.size w w' := e ▸ zhd r w h
theorem zds (r : Rc) (x y : Int) (b : Bool) (w : World) (e : jx r x y = b) : Calls Tryz.prog 150 #[.agg (jP r), .int .i64 x, .int .i64 y] w fun e w' => e = .returned (.bool b) ∧ Below w.heap.size w w' := e ▸ zij r x y w
theorem zfL (v : Value) (ls : List TA) (x y : Int) (w : World) (h : RS v ls w) (hn : ls.length ≤ maxLen) : Calls Tryz.prog 115 #[.agg #[v], .agg #[.int .i64 x, .int .i64 y]] w fun e w' => e = .returned (Tile.v (qc ls x y)) ∧ Below w.heap.size w w' := Jz v ls x y w h hn
theorem KV (v : Value) (ls : List TA) (c : Rc) (ad : Option Addr) (n cp : Nat) (w : World) (h : RS v ls w) (hn : n ≤ maxLen) (hV0 : jk c = false) : Calls Tryz.prog 97 #[.agg #[v], .agg (jy c (.slice ad n cp))] w fun e w' => e = .returned (.agg #[.slice none 0 0, .int .i64 1]) ∧ Below w.heap.size w w' := by
 have B := Below.refl w.heap.size w
 obtain ⟨a, cpv, rfl, hc⟩ := h.len
 clear h
 go_enter func97, ntmps97
 go_upto_region 0 with fail
 refine wp_region_lit ?_
 (refine jd (t := 64) B ?_; clear B; intro b_r2 wn zb zd r2 za zf zk B)
 (refine jd (t := 117) B ?_; clear B; intro b_m3 wn zb zd m3 za zf zk B; replace r2 := r2.be za)
 (refine jH (t := 82) (qJ _ _ rfl) B ?_; clear B; intro b_g4 wn zb zd g4 za zf zk B; replace r2 := r2.be za; replace m3 := m3.be za)
 refine wpList_nil ?_
 go_upto_region 1 with fail
 refine wp_region_lit ?_
 refine jD 2 ?_
 repeat (first | go_big_quiet_skip | (go_big_quiet_want; first | ((first | refine zq (fun w hw => zK (zY m3 w hw)) ?_ | refine qB ?_ | refine qC ?_); simp only [zn]; go_big_quiet_on) | (go_big_quiet_op; go_big_quiet_on)))
 refine wpQuiet_nil ?_
 refine qe B (zE func146) (c := wS c false _ hV0) ?_
 clear B
 intro wn za zf zg B
 replace r2 := r2.be za
 replace m3 := m3.be za
 replace g4 := g4.be za
 refine z7 1 ?_
 go_upto_region 2 with fail
 refine zA 11 [] (by kernel_rfl) (by kernel_rfl) (by kernel_rfl) ?_
 rotate_left 0
 simp only [jS, Nat.reduceAdd]
 refine vV 5 ?_
 repeat (first | go_big_quiet_skip | (go_big_quiet_want; first | ((first | refine zq (fun w hw => qL (xQ (zY m3 w hw))) ?_ | refine qB ?_ | refine qC ?_); simp only [zn]; go_big_quiet_on) | (go_big_quiet_op; go_big_quiet_on)))
 refine wpQuiet_nil ?_
 refine wO ?hw1_5 ?_
 case hw1_5 => kernel_rfl
 simp only [zn]
 refine vV 2 ?_
 repeat (first | go_big_quiet_skip | (go_big_quiet_want; first | ((first | refine zq (fun w hw => zK (zY m3 w hw)) ?_ | refine qB ?_ | refine qC ?_); simp only [zn]; go_big_quiet_on) | (go_big_quiet_op; go_big_quiet_on)))
 refine wpQuiet_nil ?_
 refine wO ?hw1_8 ?_
 case hw1_8 => kernel_rfl
 simp only [zn]
 refine vi 2 ?_
 refine qi ?_
 intro wn za hE
 obtain ⟨zf, zg, B⟩ := zM B za
 replace g4 := g4.be za
 clear hE
 try simp only [List.drop_succ_cons, List.drop_zero]
 refine zI.normal ?_
 go_upto_region 3 with fail
 refine qz 1 ?_
 (refine qZ (hone := (by simp [jP, jy, Value.oneCell'])) g4 B ?_; clear g4 B; intro wn g4 ze zf zg B)
 refine wpList_nil ?_
 go_wp2
 refine qO g4 ?_
 exact ⟨rfl, B⟩
theorem KW (v : Value) (ls : List TA) (c : Rc) (ad : Option Addr) (n cp : Nat) (w : World) (h : RS v ls w) (hn : n ≤ maxLen) (hV0 : jk c = true) (A : Int) (hA : yV c = A) (hlen : ¬ (n : Int) = A) : Calls Tryz.prog 97 #[.agg #[v], .agg (jy c (.slice ad n cp))] w fun e w' => e = .returned (.agg #[.slice none 0 0, .int .i64 1]) ∧ Below w.heap.size w w' := by
 have B := Below.refl w.heap.size w
 obtain ⟨a, cpv, rfl, hc⟩ := h.len
 have d1 : ((n : Int) != A) = true := by simpa using hlen
 have HA := zo hA
 clear h hA
 go_enter func97, ntmps97
 go_upto_region 0 with fail
 refine wp_region_lit ?_
 (refine jd (t := 64) B ?_; clear B; intro b_r2 wn zb zd r2 za zf zk B)
 (refine jd (t := 117) B ?_; clear B; intro b_m3 wn zb zd m3 za zf zk B; replace r2 := r2.be za)
 (refine jH (t := 82) (qJ _ _ rfl) B ?_; clear B; intro b_g4 wn zb zd g4 za zf zk B; replace r2 := r2.be za; replace m3 := m3.be za)
 refine wpList_nil ?_
 go_upto_region 1 with fail
 refine wp_region_lit ?_
 refine jD 2 ?_
 repeat (first | go_big_quiet_skip | (go_big_quiet_want; first | ((first | refine zq (fun w hw => zK (zY m3 w hw)) ?_ | refine qB ?_ | refine qC ?_); simp only [zn]; go_big_quiet_on) | (go_big_quiet_op; go_big_quiet_on)))
 refine wpQuiet_nil ?_
 refine qe B (zE func146) (c := wS c true _ hV0) ?_
 clear B
 intro wn za zf zg B
 replace r2 := r2.be za
 replace m3 := m3.be za
 replace g4 := g4.be za
 refine z7 1 ?_
 go_upto_region 2 with fail
 refine zA 11 [(5, zF ?v2_5), (8, zF ?v2_8)] (by kernel_rfl) (by kernel_rfl) (by kernel_rfl) ?_
 rotate_left 2
 simp only [jS, Nat.reduceAdd]
 refine vV 5 ?_
 repeat (first | go_big_quiet_skip | (go_big_quiet_want; first | ((first | refine zq (fun w hw => qL (xQ (zY m3 w hw))) ?_ | refine qB ?_ | refine qC ?_); simp only [zn]; go_big_quiet_on) | (go_big_quiet_op; go_big_quiet_on)))
 refine wpQuiet_nil ?_
 refine qv (by rfl) ?hw2_5 ?_ ?_
 case hw2_5 => kernel_rfl
 ·intro wn za hE Kx hKx
  obtain ⟨zf, zg, B⟩ := zM B za
  replace m3 := m3.be za
  replace g4 := g4.be za
  refine kK rfl underlying115 rfl ?_; exact hKx () _ trivial (Below.refl _ _)
 rintro ⟨⟩
 dsimp only [zF]
 simp only [zn]
 refine vV 2 ?_
 repeat (first | go_big_quiet_skip | (go_big_quiet_want; first | ((first | refine zq (fun w hw => zK (zY m3 w hw)) ?_ | refine qB ?_ | refine qC ?_); simp only [zn]; go_big_quiet_on) | (go_big_quiet_op; go_big_quiet_on)))
 refine wpQuiet_nil ?_
 refine qv (by rfl) ?hw2_8 ?_ ?_
 case hw2_8 => kernel_rfl
 ·intro wn za hE Kx hKx
  obtain ⟨zf, zg, B⟩ := zM B za
  replace g4 := g4.be za
  refine zcF func147 ?_
  refine (Jw c A _ hV0 HA.out).mono ?_; rintro e wm ⟨rfl, zl⟩; refine ⟨_, rfl, ?_⟩; have hz := hKx () wm trivial zl
  dsimp only [zF] at hz
  exact hz
 rintro ⟨⟩
 dsimp only [zF]
 simp only [zn]
 refine vi 2 ?_
 refine qi ?_
 intro wn za hE
 obtain ⟨zf, zg, B⟩ := zM B za
 replace g4 := g4.be za
 clear hE
 try simp only [List.drop_succ_cons, List.drop_zero]
 refine zI.normal ?_
 go_upto_region 3 with fail
 refine qz 1 ?_
 (refine qZ (hone := (by simp [jP, jy, Value.oneCell'])) g4 B ?_; clear g4 B; intro wn g4 ze zf zg B)
 refine wpList_nil ?_
 go_wp2
 refine qO g4 ?_
 exact ⟨rfl, B⟩
theorem KU (v : Value) (ls : List TA) (c : Rc) (ad : Option Addr) (n cp : Nat) (w : World) (h : RS v ls w) (hn : n ≤ maxLen) (hV0 : jk c = true) (hA : yV c = (n : Int)) (e0 : Int) (hF : jh c = e0) (h0 : ¬ e0 = 0) : Calls Tryz.prog 97 #[.agg #[v], .agg (jy c (.slice ad n cp))] w fun e w' => e = .returned (.agg #[.slice none 0 0, .int .i64 e0]) ∧ Below w.heap.size w w' := by
 have B := Below.refl w.heap.size w
 obtain ⟨a, cpv, rfl, hc⟩ := h.len
 have d1 : ((n : Int) != (n : Int)) = false := by simp
 have d2 : (e0 != 0) = true := by simpa using h0
 have HA := zo hA
 have HF := zo hF
 clear h hA hF
 go_enter func97, ntmps97
 go_upto_region 0 with fail
 refine wp_region_lit ?_
 (refine jd (t := 64) B ?_; clear B; intro b_r2 wn zb zd r2 za zf zk B)
 (refine jd (t := 117) B ?_; clear B; intro b_m3 wn zb zd m3 za zf zk B; replace r2 := r2.be za)
 (refine jH (t := 82) (qJ _ _ rfl) B ?_; clear B; intro b_g4 wn zb zd g4 za zf zk B; replace r2 := r2.be za; replace m3 := m3.be za)
 refine wpList_nil ?_
 go_upto_region 1 with fail
 refine wp_region_lit ?_
 refine jD 2 ?_
 repeat (first | go_big_quiet_skip | (go_big_quiet_want; first | ((first | refine zq (fun w hw => zK (zY m3 w hw)) ?_ | refine qB ?_ | refine qC ?_); simp only [zn]; go_big_quiet_on) | (go_big_quiet_op; go_big_quiet_on)))
 refine wpQuiet_nil ?_
 refine qe B (zE func146) (c := wS c true _ hV0) ?_
 clear B
 intro wn za zf zg B
 replace r2 := r2.be za
 replace m3 := m3.be za
 replace g4 := g4.be za
 refine z7 1 ?_
 go_upto_region 2 with fail
 refine zA 11 [(5, zF ?v3_5), (8, zF ?v3_8)] (by kernel_rfl) (by kernel_rfl) (by kernel_rfl) ?_
 rotate_left 2
 simp only [jS, Nat.reduceAdd]
 refine vV 5 ?_
 repeat (first | go_big_quiet_skip | (go_big_quiet_want; first | ((first | refine zq (fun w hw => qL (xQ (zY m3 w hw))) ?_ | refine qB ?_ | refine qC ?_); simp only [zn]; go_big_quiet_on) | (go_big_quiet_op; go_big_quiet_on)))
 refine wpQuiet_nil ?_
 refine qv (by rfl) ?hw3_5 ?_ ?_
 case hw3_5 => kernel_rfl
 ·intro wn za hE Kx hKx
  obtain ⟨zf, zg, B⟩ := zM B za
  replace m3 := m3.be za
  replace g4 := g4.be za
  refine kK rfl underlying115 rfl ?_; exact hKx () _ trivial (Below.refl _ _)
 rintro ⟨⟩
 dsimp only [zF]
 simp only [zn]
 refine vV 2 ?_
 repeat (first | go_big_quiet_skip | (go_big_quiet_want; first | ((first | refine zq (fun w hw => zK (zY m3 w hw)) ?_ | refine qB ?_ | refine qC ?_); simp only [zn]; go_big_quiet_on) | (go_big_quiet_op; go_big_quiet_on)))
 refine wpQuiet_nil ?_
 refine qv (by rfl) ?hw3_8 ?_ ?_
 case hw3_8 => kernel_rfl
 ·intro wn za hE Kx hKx
  obtain ⟨zf, zg, B⟩ := zM B za
  replace m3 := m3.be za
  replace g4 := g4.be za
  refine zcF func147 ?_
  refine (Jw c (n : Int) _ hV0 HA.out).mono ?_; rintro e wm ⟨rfl, zl⟩; refine ⟨_, rfl, ?_⟩; have hz := hKx () wm trivial zl
  dsimp only [zF] at hz
  exact hz
 rintro ⟨⟩
 dsimp only [zF]
 simp only [zn]
 refine vi 2 ?_
 refine qi ?_
 intro wn za hE
 obtain ⟨zf, zg, B⟩ := zM B za
 replace m3 := m3.be za
 replace g4 := g4.be za
 clear hE
 try simp only [List.drop_succ_cons, List.drop_zero]
 refine zI.normal ?_
 go_upto_region 4 with fail
 refine wp_region_lit ?_
 refine jD 2 ?_
 repeat (first | go_big_quiet_skip | (go_big_quiet_want; first | ((first | refine zq (fun w hw => zK (zY m3 w hw)) ?_ | refine qB ?_ | refine qC ?_); simp only [zn]; go_big_quiet_on) | (go_big_quiet_op; go_big_quiet_on)))
 refine wpQuiet_nil ?_
 refine qe B (zE func148) (c := zaw c e0 _ HF.out) ?_
 clear B
 intro wn za zf zg B
 replace g4 := g4.be za
 refine z7 1 ?_
 go_upto_region 5 with fail
 refine zS 2 ?_
 go_upto_region 6 with fail
 refine qz 2 ?_
 (refine qZ (hone := (by simp [jP, jy, Value.oneCell'])) g4 B ?_; clear g4 B; intro wn g4 ze zf zg B)
 refine wpList_nil ?_
 go_wp2
 refine qO g4 ?_
 exact ⟨rfl, B⟩
theorem zbE (b off n : Nat) : (Addr.add ⟨b, off, none⟩ n) = ⟨b, off + n, none⟩ := by
 unfold Addr.add; split
 ·rename_i h; subst h; rfl
 ·rfl
theorem zhH {g o b : Nat} {t : TypeId} {cs : Array Value} {ls : List (Int × Int)} {w : World} (h : zH psE g o ls w) (hn : 0 < ls.length) (k : zw t w b cs) (hs : ∀ (i : Nat) (n : Int), cs[i]? ≠ some (.int .i64 n)) : g ≠ b := by
 rintro rfl
 have h0 := h.2 0 _ (List.getElem?_eq_getElem hn) 0 (by omega)
 rw [(qf k).1] at h0
 exact hs _ _ h0
theorem zeF {g o : Nat} {ls : List (Int × Int)} {w : World} (h : zH psE g o ls w) {i : Nat} {x y : Int} (hi : ls[i]? = some (x, y)) : (Instr.loadAt 95 (.pointer (some ⟨g, o + i * 2, none⟩))).run Tryz.prog w = .ok (.agg #[.int .i64 x, .int .i64 y]) w :=
 h.load isAgg95 hi
theorem Y3 {g o : Nat} {ls : List (Int × Int)} {w : World} (h : zH psE g o ls w) {i : Nat} {x y : Int} (hi : ls[i]? = some (x, y)) : (Instr.loadAt 3 (.pointer (some ⟨g, o + i * 2, none⟩))).run Tryz.prog w = .ok (.int .i64 x) w :=
 qt (by have := h.2 i _ hi 0 (by omega); rw [Nat.add_zero] at this; exact this)
theorem Y4 {g o : Nat} {ls : List (Int × Int)} {w : World} (h : zH psE g o ls w) {i : Nat} {x y : Int} (hi : ls[i]? = some (x, y)) : (Instr.loadAt 3 (.pointer (some ⟨g, o + i * 2 + 1, none⟩))).run Tryz.prog w = .ok (.int .i64 y) w :=
 qt (by have := h.2 i _ hi 1 (by omega); rw [← Nat.add_assoc] at this; exact this)
theorem Wr (v : Value) (ls : List TA) (c : Rc) (u : Value) (L : List Px) (w : World) (h : RS v ls w) (tk : qQ ls) (hn : ls.length ≤ maxLen) (hE : jh c = 0) (hu : xh yq u L w) (hL : L.length = areaN c) (okL : Ks L) : Calls Tryz.prog 97 #[.agg #[v], .agg (jy c u)] w fun e w' => ∃ a cp, e = .returned (.agg #[.slice a (xk (xj c L (qh ls) (jG c))).length cp, .int .i64 (yz (xj c L (qh ls) (jG c)))]) ∧ RS (.slice a (xk (xj c L (qh ls) (jG c))).length cp) (xk (xj c L (qh ls) (jG c))) w' ∧ Below w.heap.size w w' := by
 have B := Below.refl w.heap.size w
 obtain ⟨a', c', hT⟩ := zbA v ls w h tk hn
 have HT := zo hT
 clear hT
 obtain ⟨a, cpv, rfl, hc⟩ := h.len
 have HF := xY hE
 have FT := zo HF
 obtain ⟨an1, an2⟩ := wU HF
 have hAN := zo (uF HF)
 have HV := zo HF.valid
 obtain ⟨ad, cu, rfl, hcu⟩ := hu.len
 obtain ⟨g, o, rfl, ce⟩ := hu.at (by have := uF HF; omega)
 have SR := zo (xL (jB ls))
 have TK := zo (yk tk)
 have CK := zo (Q0 (jB ls))
 have hfl := vj ls
 have hNle := Kl HF
 have hNpos : 0 < tlN c := by
  have h1 := (wU (vq HF)).1; show 0 < areaN (ue c)
  omega
 have OK := zo okL
 have HL := zo hL
 have HEE := zo hE
 have d1 : ((areaN c : Int) != (areaN c : Int)) = false := by simp
 rw [hL]
 rw [hL] at hcu
 clear h tk hu okL hL hE HF
 generalize hks : qh ls = KS at *
 clear hks
 go_enter func97, ntmps97
 go_upto_region 0 with fail
 refine wp_region_lit ?_
 (refine jd (t := 64) B ?_; clear B; intro b_r2 wn zb zd r2 za zf zk B; have zh := ce.lt; replace ce := ce.be za)
 (refine jd (t := 117) B ?_; clear B; intro b_m3 wn zb zd m3 za zf zk B; have zh := r2.lt; replace r2 := r2.be za; have zh := ce.lt; replace ce := ce.be za)
 (refine jH (t := 82) (qJ _ _ rfl) B ?_; clear B; intro b_g4 wn zb zd g4 za zf zk B; have zh := r2.lt; replace r2 := r2.be za; have zh := m3.lt; replace m3 := m3.be za; have zh := ce.lt; replace ce := ce.be za)
 refine wpList_nil ?_
 go_upto_region 1 with fail
 refine wp_region_lit ?_
 refine jD 2 ?_
 repeat (first | go_big_quiet_skip | (go_big_quiet_want; first | ((first | refine zq (fun w hw => zK (zY m3 w hw)) ?_ | refine qB ?_ | refine qC ?_); simp only [zn]; go_big_quiet_on) | (go_big_quiet_op; go_big_quiet_on)))
 refine wpQuiet_nil ?_
 refine xz (zE func146) (c := wS c true _ HV.out) (h := ?_)
 rintro e wn ⟨rfl, za⟩
 obtain ⟨zf, zg, B⟩ := zM B za
 replace r2 := r2.be za
 replace m3 := m3.be za
 replace g4 := g4.be za
 replace ce := ce.be za
 refine ⟨_, rfl, ?_⟩
 simp only [zn]
 refine z7 1 ?_
 go_upto_region 2 with fail
 have lx_r2 := r2.lt
 have lx_m3 := m3.lt
 have lx_g4 := g4.lt
 have lx_ce := ce.lt
 refine zA 11 [(5, zF ?v4_5), (8, zF ?v4_8)] (by kernel_rfl) (by kernel_rfl) (by kernel_rfl) ?_
 rotate_left 2
 simp only [jS, Nat.reduceAdd]
 refine vV 5 ?_
 repeat (first | go_big_quiet_skip | (go_big_quiet_want; first | ((first | refine zq (fun w hw => qL (xQ (zY m3 w hw))) ?_ | refine qB ?_ | refine qC ?_); simp only [zn]; go_big_quiet_on) | (go_big_quiet_op; go_big_quiet_on)))
 refine wpQuiet_nil ?_
 refine qv (by rfl) ?hw4_5 ?_ ?_
 case hw4_5 => kernel_rfl
 ·intro wn za hE Kx hKx
  obtain ⟨zf, zg, B⟩ := zM B za
  replace r2 := r2.be za
  replace m3 := m3.be za
  replace g4 := g4.be za
  replace ce := ce.be za
  refine kK rfl underlying115 rfl ?_; exact hKx () _ trivial (Below.refl _ _)
 rintro ⟨⟩
 dsimp only [zF]
 simp only [zn]
 refine vV 2 ?_
 repeat (first | go_big_quiet_skip | (go_big_quiet_want; first | ((first | refine zq (fun w hw => zK (zY m3 w hw)) ?_ | refine qB ?_ | refine qC ?_); simp only [zn]; go_big_quiet_on) | (go_big_quiet_op; go_big_quiet_on)))
 refine wpQuiet_nil ?_
 refine qv (by rfl) ?hw4_8 ?_ ?_
 case hw4_8 => kernel_rfl
 ·intro wn za hE Kx hKx
  obtain ⟨zf, zg, B⟩ := zM B za
  replace r2 := r2.be za
  replace m3 := m3.be za
  replace g4 := g4.be za
  replace ce := ce.be za
  refine zcF func147 ?_
  refine (Jw c (areaN c : Int) _ HV.out hAN.out).mono ?_; rintro e wm ⟨rfl, zl⟩; refine ⟨_, rfl, ?_⟩; have hz := hKx () wm trivial zl
  dsimp only [zF] at hz
  exact hz
 rintro ⟨⟩
 dsimp only [zF]
 simp only [zn]
 refine vi 2 ?_
 refine qi ?_
 intro wn za hE
 obtain ⟨zf, zg, B⟩ := zM B za
 replace r2 := r2.be za
 replace m3 := m3.be za
 replace g4 := g4.be za
 replace ce := ce.be za
 clear hE
 try simp only [List.drop_succ_cons, List.drop_zero]
 refine zI.normal ?_
 go_upto_region 4 with fail
 refine wp_region_lit ?_
 refine jD 2 ?_
 repeat (first | go_big_quiet_skip | (go_big_quiet_want; first | ((first | refine zq (fun w hw => zK (zY m3 w hw)) ?_ | refine qB ?_ | refine qC ?_); simp only [zn]; go_big_quiet_on) | (go_big_quiet_op; go_big_quiet_on)))
 refine wpQuiet_nil ?_
 refine xz (zE func148) (c := zaw c 0 _ HEE.out) (h := ?_)
 rintro e wn ⟨rfl, za⟩
 obtain ⟨zf, zg, B⟩ := zM B za
 replace r2 := r2.be za
 replace m3 := m3.be za
 replace g4 := g4.be za
 replace ce := ce.be za
 refine ⟨_, rfl, ?_⟩
 simp only [zn]
 refine z7 1 ?_
 go_upto_region 5 with fail
 refine zS 2 ?_
 go_upto_region 7 with fail
 refine qz 1 ?_
 refine xz (zE func92) (c := (HT.out _ B).1) (h := ?_)
 rintro e wn ⟨rfl, za⟩
 obtain ⟨zf, zg, B⟩ := zM B za
 replace r2 := r2.be za
 replace m3 := m3.be za
 replace g4 := g4.be za
 replace ce := ce.be za
 refine ⟨_, rfl, ?_⟩
 simp only [zn]
 (refine qZ (hone := (by simp [jP, jy, Value.oneCell'])) r2 B ?_; clear r2 B; intro wn r2 ze zf zg B; replace m3 := m3.cg ze; replace g4 := g4.cg ze; replace ce := ce.cg ze)
 refine wpList_nil ?_
 go_upto_region 8 with fail
 refine wp_region_lit ?_
 refine jD 2 ?_
 repeat (first | go_big_quiet_skip | (go_big_quiet_want; first | ((first | refine zq (fun w hw => zK (zY m3 w hw)) ?_ | refine qB ?_ | refine qC ?_); simp only [zn]; go_big_quiet_on) | (go_big_quiet_op; go_big_quiet_on)))
 refine wpQuiet_nil ?_
 (refine jH (t := 38) (zN _ _ rfl) B ?_; clear B; intro b_c7 wn zb zd c7 za zf zk B; have zh := r2.lt; replace r2 := r2.be za; have zh := m3.lt; replace m3 := m3.be za; have zh := g4.lt; replace g4 := g4.be za; have zh := c7.lt; have zh := ce.lt; replace ce := ce.be za)
 (refine qZ (hone := (by simp [jP, jy, Value.oneCell'])) c7 B ?_; clear c7 B; intro wn c7 ze zf zg B; replace r2 := r2.cg ze; replace m3 := m3.cg ze; replace g4 := g4.cg ze; replace ce := ce.cg ze)
 refine wpList_nil ?_
 replace c7 : zw 38 _ b_c7 (jP c) := c7
 have k2 : w.heap.size ≤ b_r2 := by omega
 have k3 : b_r2 < b_m3 := by have := r2.lt; omega
 have k4 : b_m3 < b_g4 := by have := m3.lt; omega
 have k7 : b_g4 < b_c7 := by have := g4.lt; omega
 go_upto_region 9 with fail
 refine wp_region_lit ?_
 refine jD 1 ?_
 repeat (first | go_big_quiet_skip | (go_big_quiet_want; first | ((first | refine zq (fun w hw => zK (zY m3 w hw)) ?_ | refine qB ?_ | refine qC ?_); simp only [zn]; go_big_quiet_on) | (go_big_quiet_op; go_big_quiet_on)))
 refine wpQuiet_nil ?_
 refine xz (zE func149) (c := zdy c _ FT.out) (h := ?_)
 rintro e wn ⟨ap, cpp, rfl, ps, za⟩
 obtain ⟨zf, zg, B⟩ := zM B za
 replace r2 := r2.be za
 replace m3 := m3.be za
 replace g4 := g4.be za
 replace c7 := c7.be za
 replace ce := ce.be za
 refine ⟨_, rfl, ?_⟩
 simp only [zn]
 refine z7 1 ?_
 obtain ⟨gp, op, rfl, pc⟩ := ps.at (by rw [vy]; exact hNpos)
 clear ps
 have rs1 := (HT.out _ B).2
 have k9 : b_c7 < wn.heap.size := c7.lt
 have ngr : gp ≠ b_r2 := zhH pc (by rw [vy]; exact hNpos) r2 (fun i n => by cases i <;> simp)
 go_upto_region 10 with fail
 refine zS 1 ?_
 go_wp2
 go_loopw [9, 10, 11, 12, 13, 14] (fun iv _ _ _ _ _ wr => ∃ (k n cp : Nat) (ad : Option Addr), k ≤ tlN c ∧ iv = .int .i64 (k : Int) ∧ n = (xj c L KS ((jG c).take k)).length ∧ zw 64 wr b_r2 #[.slice ad n cp] ∧ RS (.slice ad n cp) (xj c L KS ((jG c).take k)) wr ∧ Below w.heap.size w wr ∧ zw 117 wr b_m3 (jy c (.slice (some ⟨g, o, none⟩) (areaN c) cu)) ∧ zw 82 wr b_g4 #[.slice none 0 0, .int .i64 0] ∧ zw 38 wr b_c7 (jP c) ∧ zH yq g o L wr ∧ zH psE gp op (jG c) wr) (fun iv _ _ _ _ _ _ => (tlN c - intOf iv).toNat)
 case atStart => exact ⟨0, _, _, _, by omega, rfl, rfl, r2, rs1, B, m3, g4, c7, ce, pc⟩
 case round =>
  clear B m3 g4 c7 ce pc r2 rs1; obtain ⟨k, n, cp, ad, hk, rfl, hnM, r2, rs1, B, m3, g4, c7, ce, pc⟩ := hrel; have hMl := J6 c L ((jG c).take k) KS; rw [← hnM, List.length_take, vy] at hMl; have hMb : n ≤ 3000 := by omega
  clear hMl; have HNM := zo hnM; have SM := zo (Z6 c L ((jG c).take k) KS SR.out); have TM := zo (J7 OK.out ((jG c).take k) KS TK.out (c := c)); have CM := zo (WS c L ((jG c).take k) KS CK.out); obtain ⟨M, hM⟩ : ∃ M, xj c L KS ((jG c).take k) = M := ⟨_, rfl⟩; rw [hM] at rs1; have HM := zo hM; have HNM' := zo (show n = M.length from by rw [← hM]; exact hnM)
  have SM' := zo (show QJ M from by rw [← hM]; exact SM.out)
  have TM' := zo (show qQ M from by rw [← hM]; exact TM.out)
  have CM' := zo (show uA M from by rw [← hM]; exact CM.out)
  clear hM hnM SM TM CM; by_cases hkN : k < tlN c
  ·have q1 : decide ((k : Int) < (tlN c : Int)) = true := zQ (by omega)
   have q2 : decide (k < tlN c) = true := zQ hkN; obtain ⟨⟨x, y⟩, hxy⟩ : ∃ p, Zh c k = p := ⟨_, rfl⟩; have hpo := za6 c hkN; rw [hxy] at hpo; have hwi := YW FT.out hkN; rw [hxy] at hwi; have hwi := of_decide_eq_true hwi; obtain ⟨w1, w2, w3, w4⟩ := hwi
   dsimp only at w1 w2 w3 w4
   have HXY := zo hxy; clear hxy; have hpl := vy c; go_upto_region 11 with fail
   refine qz 2 ?_; refine j1 underlying90 ?_; refine z7 1 ?_; go_upto_region 13 with fail
   have lx_r2 := r2.lt
   have lx_m3 := m3.lt
   have lx_g4 := g4.lt
   have lx_c7 := c7.lt
   have lx_ce := ce.lt
   have lx_pc := pc.lt
   refine zA 7 [(5, zF ?v5_5), (6, zgv (wr.heap.size) 123 (qU (fun _ => Px.zero)))] (by kernel_rfl) (by kernel_rfl) (by kernel_rfl) ?_
   rotate_left 1
   simp only [jS, Nat.reduceAdd]; refine vV 5 ?_
   repeat (first | go_big_quiet_skip | (go_big_quiet_want; first | ((first | refine zq (fun w hw => zeF (qD pc w hw) hpo) ?_ | refine qB ?_ | refine qC ?_); simp only [zn]; go_big_quiet_on) | (go_big_quiet_op; go_big_quiet_on)))
   refine wpQuiet_nil ?_; refine zcB ?_ ?_
   ·intro wn za hE Kx hKx
    obtain ⟨zf, zg, B⟩ := zM B za
    replace r2 := r2.be za
    replace m3 := m3.be za
    replace g4 := g4.be za
    replace c7 := c7.be za
    replace ce := ce.be za
    replace pc := pc.be za
    replace rs1 := rs1.be za
    refine zcF func115 ?_
    refine (zfL _ M x y _ rs1 (by rw [← HNM'.out]; unfold maxLen; omega)).mono ?_
    rintro e wm ⟨rfl, zl⟩; refine ⟨_, rfl, ?_⟩; have hz := hKx () wm trivial zl
    dsimp only [zF] at hz
    exact hz
   rintro ⟨⟩
   dsimp only [zF]
   simp only [zn]; refine zcB ?_ ?_
   ·intro wn za hE Kx hKx
    obtain ⟨zf, zg, B⟩ := zM B za
    replace r2 := r2.be za
    replace m3 := m3.be za
    replace g4 := g4.be za
    replace c7 := c7.be za
    replace ce := ce.be za
    replace pc := pc.be za
    replace rs1 := rs1.be za
    refine zO (t := 123) _ (vD _ _ rfl) ?_; intro b wm h1 h2 ht zl zm; exact hKx b wm ⟨Nat.le_trans za.size h1, ht⟩ (zl.mono h1)
   rintro b_t10
   dsimp only [zF, zgv]
   simp only [zn]; refine qi ?_; intro wn za hE; obtain ⟨zf, zg, B⟩ := zM B za
   replace r2 := r2.be za
   replace m3 := m3.be za
   replace g4 := g4.be za
   replace c7 := c7.be za
   replace ce := ce.be za
   replace pc := pc.be za
   replace rs1 := rs1.be za
   obtain ⟨hge_t10, t10⟩ : _ ∧ zw _ _ _ _ := hE 6; clear hE; try simp only [List.drop_succ_cons, List.drop_zero]
   replace t10 : zV _ b_t10 (fun _ => Px.zero) := t10; go_wp2_with (first | (refine qF rfl _ _ rfl _ rfl _ rfl t10 (xV B (by omega) ?_); have t10o := t10; clear t10 B; intro wn t10 ze zf zg B; replace rs1 := rs1.chgT t10o ze; replace r2 := r2.cg ze; replace m3 := m3.cg ze; replace g4 := g4.cg ze; replace c7 := c7.cg ze; replace ce := ce.cg ze; replace pc := pc.cg ze; simp only [zn]) | fail)
   refine zI.normal ?_; replace t10 : zV _ b_t10 (qc M x y) := t10; have HTT := zo (yJ TM'.out x y); have HCT := zo (fun i (hi : i < 64) => vp CM'.out x y hi); obtain ⟨t, ht⟩ : ∃ t, qc M x y = t := ⟨_, rfl⟩; rw [ht] at t10 HTT HCT; have HTE := zo ht; clear ht; have k10 : w.heap.size ≤ b_t10 := by omega
   have n10m3 : b_m3 ≠ b_t10 := Nat.ne_of_lt (Nat.lt_of_lt_of_le lx_m3 hge_t10); have n10g4 : b_g4 ≠ b_t10 := Nat.ne_of_lt (Nat.lt_of_lt_of_le lx_g4 hge_t10); have n10c7 : b_c7 ≠ b_t10 := Nat.ne_of_lt (Nat.lt_of_lt_of_le lx_c7 hge_t10); have n10ce : g ≠ b_t10 := Nat.ne_of_lt (Nat.lt_of_lt_of_le lx_ce hge_t10); have n10pc : gp ≠ b_t10 := Nat.ne_of_lt (Nat.lt_of_lt_of_le lx_pc hge_t10); have n10r2 : b_r2 ≠ b_t10 := Nat.ne_of_lt (Nat.lt_of_lt_of_le lx_r2 hge_t10); go_upto_region 14 with fail
   refine zS 1 ?_; go_wp2; go_loopw [11] (fun jv wr => ∃ j : Nat, j ≤ 64 ∧ jv = .int .i64 (j : Int) ∧ zV wr b_t10 (yM (J5 c L) ⟨x, y, t⟩ j ()).2 ∧ Below w.heap.size w wr ∧ zw 117 wr b_m3 (jy c (.slice (some ⟨g, o, none⟩) (areaN c) cu)) ∧ zw 82 wr b_g4 #[.slice none 0 0, .int .i64 0] ∧ zw 38 wr b_c7 (jP c) ∧ zH yq g o L wr ∧ zH psE gp op (jG c) wr ∧ zw 64 wr b_r2 #[.slice ad n cp] ∧ RS (.slice ad n cp) M wr) (fun jv _ => (64 - intOf jv).toNat)
   case atStart => exact ⟨0, by omega, rfl, t10, B, m3, g4, c7, ce, pc, r2, rs1⟩
   case round =>
    clear B m3 g4 c7 ce pc r2 rs1 t10; obtain ⟨j, hj, rfl, t10, B, m3, g4, c7, ce, pc, r2, rs1⟩ := hrel; by_cases hj64 : j < 64
    ·have q3 : decide ((j : Int) < 64) = true := zQ (by omega)
     have d8 : (0 : Int) ≤ (j : Int) % 8 ∧ (j : Int) % 8 < 8 := by omega
     have d9 : (0 : Int) ≤ (j : Int) / 8 ∧ (j : Int) / 8 < 8 := by omega
     go_upto_region 15 with fail
     refine zS 2 ?_; go_upto_region 17 with fail
     refine wp_region_lit ?_; refine jD 10 ?_
     repeat (first | go_big_quiet_skip | (go_big_quiet_want; first | ((first | refine zq (fun w hw => Y3 (qD pc w hw) hpo) ?_ | refine zq (fun w hw => Y4 (qD pc w hw) hpo) ?_ | refine qB ?_ | refine qC ?_); simp only [zn]; go_big_quiet_on) | (go_big_quiet_op; go_big_quiet_on)))
     refine wpQuiet_nil ?_; refine wpList_nil ?_; go_upto_region 18 with fail
     refine wp_region_lit ?_; refine jD 10 ?_
     repeat (first | go_big_quiet_skip | (go_big_quiet_want; first | ((first | refine zq (fun w hw => Y3 (qD pc w hw) hpo) ?_ | refine zq (fun w hw => Y4 (qD pc w hw) hpo) ?_ | refine qB ?_ | refine qC ?_); simp only [zn]; go_big_quiet_on) | (go_big_quiet_op; go_big_quiet_on)))
     refine wpQuiet_nil ?_; refine wpList_nil ?_; have HE1 := zo (X8 (J5 c L) ⟨x, y, t⟩ () j j (Nat.le_refl _)); cases hh : jx c (8 * x + (j : Int) % 8) (8 * y + (j : Int) / 8) with
     | true =>
      have HH := zo hh; go_upto_region 19 with fail
      refine wp_region_lit ?_; refine jD 3 ?_
      repeat (first | go_big_quiet_skip | (go_big_quiet_want; first | ((first | refine zq (fun w hw => zK (zY m3 w hw)) ?_ | refine qB ?_ | refine qC ?_); simp only [zn]; go_big_quiet_on) | (go_big_quiet_op; go_big_quiet_on)))
      refine wpQuiet_nil ?_; refine xz (zE func150) (c := zds c (8 * x + (j : Int) % 8) (8 * y + (j : Int) / 8) true _ HH.out) (h := ?_); rintro e wn ⟨rfl, za⟩; obtain ⟨zf, zg, B⟩ := zM B za
      replace r2 := r2.be za
      replace m3 := m3.be za
      replace g4 := g4.be za
      replace c7 := c7.be za
      replace ce := ce.be za
      replace pc := pc.be za
      replace t10 := t10.be za
      replace rs1 := rs1.be za; refine ⟨_, rfl, ?_⟩; simp only [zn]; refine z7 1 ?_; go_upto_region 20 with fail
      refine zS 1 ?_; have HP := zo (show uy c L (x * 8 + (j : Int) % 8) (y * 8 + (j : Int) / 8) (t j) = jo (ZI c L (8 * x + (j : Int) % 8) (8 * y + (j : Int) / 8)) from by
       rw [show x * 8 + (j : Int) % 8 = 8 * x + (j : Int) % 8 by omega, show y * 8 + (j : Int) / 8 = 8 * y + (j : Int) / 8 by omega]; unfold uy; rw [hh]
       rfl)
      obtain ⟨m1, m2, m3', m4⟩ := YL FT.out hh; have hix : (kq c (8 * x + (j : Int) % 8) (8 * y + (j : Int) / 8)).toNat < L.length := by rw [HL.out]; exact m4
      have hpx : L[(kq c (8 * x + (j : Int) % 8) (8 * y + (j : Int) / 8)).toNat]? = some (ZI c L (8 * x + (j : Int) % 8) (8 * y + (j : Int) / 8)) := by
       unfold ZI; rw [List.getD_eq_getElem?_getD, List.getElem?_eq_getElem hix]
       rfl
      have hok := zo (YU OK.out (c := c) (8 * x + (j : Int) % 8) (8 * y + (j : Int) / 8))
      generalize ZI c L (8 * x + (j : Int) % 8) (8 * y + (j : Int) / 8) = pp at *
      obtain ⟨g1, g2, g3, g4'⟩ := of_decide_eq_true hh; obtain ⟨a1, a2, a3, a4, a5, a6, a7, a8⟩ := FT.out; have hidx : (8 * y + (j : Int) / 8 - c.y0) * (c.x1 - c.x0) + (8 * x + (j : Int) % 8) - c.x0 = kq c (8 * x + (j : Int) % 8) (8 * y + (j : Int) / 8) := rfl; have m5 : kq c (8 * x + (j : Int) % 8) (8 * y + (j : Int) / 8) < (areaN c : Int) := by omega
      clear hh; go_upto_region 21 with fail
      refine wp_region_lit ?_; refine jD 20 ?_
      repeat (first | go_big_quiet_skip | (go_big_quiet_want; first | ((first | refine zq (fun w hw => qL (xQ (zY m3 w hw))) ?_ | refine zq (fun w hw => Y3 (qD pc w hw) hpo) ?_ | refine zq (fun w hw => Y4 (qD pc w hw) hpo) ?_ | refine zq (fun w hw => W4 (qD ce w hw) hpx) ?_ | refine qB ?_ | refine qC ?_); simp only [zn]; go_big_quiet_on) | (go_big_quiet_op; go_big_quiet_on)))
      refine wpQuiet_nil ?_; refine xz (zE func32) (c := Yy pp _ hok.out) (h := ?_); rintro e wn ⟨rfl, za⟩; obtain ⟨zf, zg, B⟩ := zM B za
      replace r2 := r2.be za
      replace m3 := m3.be za
      replace g4 := g4.be za
      replace c7 := c7.be za
      replace ce := ce.be za
      replace pc := pc.be za
      replace t10 := t10.be za
      replace rs1 := rs1.be za; refine ⟨_, rfl, ?_⟩; simp only [zn]; refine jL 1 ?_
      (refine kj rfl _ _ rfl _ _ (by first | rfl | exact congrArg (fun x => Value.pointer (some x)) (zbE _ _ _)) _ rfl t10 j (by omega) (by first | rfl | omega) (xV B (by omega) ?_); have t10o := t10; clear t10 B; intro wn t10 ze zf zg B; replace rs1 := rs1.chgT t10o ze; replace r2 := r2.cg ze; replace m3 := m3.cg ze; replace g4 := g4.cg ze; replace c7 := c7.cg ze; replace ce := ce.cg ze; replace pc := pc.cg ze; simp only [zn])
      refine wpList_nil ?_; go_wp2; go_roundw
      case rel => exact ⟨j + 1, by omega, by go_num, by show zV _ b_t10 (ZP (yM (J5 c L) ⟨x, y, t⟩ j ()).2 j (uy c L (x * 8 + (j : Int) % 8) (y * 8 + (j : Int) / 8) (t j))); rw [HP.out]; exact t10, B, m3, g4, c7, ce, pc, r2, rs1⟩
      case measure => simp [intOf]; omega
     | false =>
      have HH := zo hh; go_upto_region 19 with fail
      refine wp_region_lit ?_; refine jD 3 ?_
      repeat (first | go_big_quiet_skip | (go_big_quiet_want; first | ((first | refine zq (fun w hw => zK (zY m3 w hw)) ?_ | refine qB ?_ | refine qC ?_); simp only [zn]; go_big_quiet_on) | (go_big_quiet_op; go_big_quiet_on)))
      refine wpQuiet_nil ?_; refine xz (zE func150) (c := zds c (8 * x + (j : Int) % 8) (8 * y + (j : Int) / 8) false _ HH.out) (h := ?_); rintro e wn ⟨rfl, za⟩; obtain ⟨zf, zg, B⟩ := zM B za
      replace r2 := r2.be za
      replace m3 := m3.be za
      replace g4 := g4.be za
      replace c7 := c7.be za
      replace ce := ce.be za
      replace pc := pc.be za
      replace t10 := t10.be za
      replace rs1 := rs1.be za; refine ⟨_, rfl, ?_⟩; simp only [zn]; refine z7 1 ?_; go_upto_region 20 with fail
      refine zS 1 ?_; have HP := zo (show uy c L (x * 8 + (j : Int) % 8) (y * 8 + (j : Int) / 8) (t j) = t j from by
       rw [show x * 8 + (j : Int) % 8 = 8 * x + (j : Int) % 8 by omega, show y * 8 + (j : Int) / 8 = 8 * y + (j : Int) / 8 by omega]; unfold uy; rw [hh]
       rfl)
      clear hh; go_wp2; go_roundw
      case rel => exact ⟨j + 1, by omega, by go_num, by show zV _ b_t10 (ZP (yM (J5 c L) ⟨x, y, t⟩ j ()).2 j (uy c L (x * 8 + (j : Int) % 8) (y * 8 + (j : Int) / 8) (t j))); rw [HP.out, zfb _ _ _ HE1.out]; exact t10, B, m3, g4, c7, ce, pc, r2, rs1⟩
      case measure => simp [intOf]; omega
    ·obtain rfl : j = 64 := by omega
     have q3 : decide (((64 : Nat) : Int) < 64) = false := by decide
     rw [Xh] at t10; have HTC := zo (fun i (hi : i < 64) => zAA c L x y HCT.out i hi); have HTK := zo (J8 OK.out x y HTT.out (c := c)); go_upto_region 15 with fail
     refine zS 2 ?_; go_upto_region 22 with fail
     have lx_r2 := r2.lt
     have lx_m3 := m3.lt
     have lx_g4 := g4.lt
     have lx_c7 := c7.lt
     have lx_ce := ce.lt
     have lx_pc := pc.lt
     have lx_t10 := t10.lt
     refine zA 7 [(6, ziV (xF M x y (qI (xo c L x y t))))] (by kernel_rfl) (by kernel_rfl) (by kernel_rfl) ?_
     rotate_left 0
     simp only [jS, Nat.reduceAdd]; refine vV 6 ?_
     repeat (first | go_big_quiet_skip | (go_big_quiet_want; first | ((first | refine zq (fun w hw => zeF (qD pc w hw) hpo) ?_ | refine j4 rfl _ rfl (xT t10) ?_ | refine qB ?_ | refine qC ?_); simp only [zn]; go_big_quiet_on) | (go_big_quiet_op; go_big_quiet_on)))
     refine wpQuiet_nil ?_; refine zcB ?_ ?_
     ·intro wn za hE Kx hKx
      obtain ⟨zf, zg, B⟩ := zM B za
      replace r2 := r2.be za
      replace m3 := m3.be za
      replace g4 := g4.be za
      replace c7 := c7.be za
      replace ce := ce.be za
      replace pc := pc.be za
      replace rs1 := rs1.be za
      refine zcF func151 ?_
      refine (zdA _ M x y (xo c L x y t) (qI (xo c L x y t)) _ rs1 SM'.out HTK.out rfl (by rw [← HNM'.out]; omega)).mono ?_
      rintro e wm ⟨v', rfl, hr, zl⟩; obtain ⟨a', c', rfl, _⟩ := hr.len; exact ⟨_, rfl, hKx (a', c') wm hr zl⟩
     rintro ⟨a110, c110⟩
     dsimp only [zF, ziV]
     simp only [zn]; refine qi ?_; intro wn za hE; obtain ⟨zf, zg, B⟩ := zM B za
     replace r2 := r2.be za
     replace m3 := m3.be za
     replace g4 := g4.be za
     replace c7 := c7.be za
     replace ce := ce.be za
     replace pc := pc.be za
     replace rs1 := rs1.be za
     have rs2 := hE 6; change RS _ _ _ at rs2
     clear hE; try simp only [List.drop_succ_cons, List.drop_zero]
     go_wp2_with (first | (refine qZ r2 B ?_; have r2o := r2; clear r2 B; intro wn r2 ze zf zg B; replace rs2 := rs2.chg r2o (by simp) ze; replace m3 := m3.cg ze; replace g4 := g4.cg ze; replace c7 := c7.cg ze; replace ce := ce.cg ze; replace pc := pc.cg ze) | fail)
     refine zI.normal ?_; go_wp2; go_roundw
     case rel =>
      have hcg := WV M x y (t := qI (xo c L x y t)) (u := xo c L x y t) (fun i hi => by show jo _ = _; exact HTC.out i hi)
      have hnx : xj c L KS ((jG c).take (k + 1)) = xF M x y (xo c L x y t) := by
       rw [XY c hkN, HXY.out, X3, HM.out]; show xF M x y (xo c L x y (qc M x y)) = _
       rw [HTE.out]
      exact ⟨k + 1, _, _, _, by omega, by go_num, by rw [hnx]; exact hcg.2, r2, by rw [hnx]; exact rs2.congr hcg.2 hcg.1, B, m3, g4, c7, ce, pc⟩
     case measure => simp [intOf]; omega
  ·obtain rfl : k = tlN c := by omega
   have q1 : decide (((tlN c : Nat) : Int) < (tlN c : Int)) = false := zB (by omega); have q2 : decide (tlN c < tlN c) = false := zB (by omega); have hpl := vy c; have hall : (jG c).take (tlN c) = jG c := List.take_of_length_le (by rw [hpl]; omega)
   rw [hall] at HM; obtain rfl : n = M.length := HNM'.out; go_upto_region 11 with fail
   refine qz 2 ?_; refine j1 underlying90 ?_; refine z7 1 ?_; go_upto_region 23 with fail
   clear hall hpl q1 q2 HNM' d1; by_cases hm : M.length ≤ 1024
   ·have e1 : xk M = M := if_pos hm
    have e2 : yz M = 0 := if_pos hm; refine qz 1 ?_
    refine xz (zE func152) (c := YA _ _ _ _ (by unfold maxLen; omega)) (h := ?_)
    rintro e wn ⟨rfl, za⟩; obtain ⟨zf, zg, B⟩ := zM B za
    replace g4 := g4.be za
    replace rs1 := rs1.be za; rw [if_pos hm]; refine ⟨_, rfl, ?_⟩; simp only [zn]
    (refine qZ g4 B ?_; have g4o := g4; clear g4 B; intro wn g4 ze zf zg B; replace rs1 := rs1.chg g4o (by simp) ze)
    refine wpList_nil ?_; clear e1 e2; iterate 3 go_step
    refine qO g4 ?_; have e1 : xk M = M := if_pos hm; have e2 : yz M = 0 := if_pos hm; rw [HM.out, e1, e2]; exact ⟨_, _, rfl, rs1, B⟩
   ·have e1 : xk M = [] := if_neg hm
    have e2 : yz M = 2 := if_neg hm; refine qz 1 ?_
    refine xz (zE func152) (c := YA _ _ _ _ (by unfold maxLen; omega)) (h := ?_)
    rintro e wn ⟨rfl, za⟩; obtain ⟨zf, zg, B⟩ := zM B za
    replace g4 := g4.be za
    replace rs1 := rs1.be za; rw [if_neg hm]; refine ⟨_, rfl, ?_⟩; simp only [zn]
    (refine qZ g4 B ?_; have g4o := g4; clear g4 B; intro wn g4 ze zf zg B)
    refine wpList_nil ?_; clear e1 e2; iterate 3 go_step
    refine qO g4 ?_; have e1 : xk M = [] := if_neg hm; have e2 : yz M = 2 := if_neg hm; rw [HM.out, e1, e2]; exact ⟨_, _, rfl, RS.nil _, B⟩
theorem zc1 (v : Value) (ls : List TA) (c : Rc) (u : Value) (L : List Px) (w : World) (h : RS v ls w) (tk : qQ ls) (hn : ls.length ≤ maxLen) (hu : xh yq u L w) (hLn : L.length ≤ maxLen) (okL : Ks L) : Calls Tryz.prog 77 #[.agg #[v], .agg (jy c u)] w fun e w' => ∃ a cp, e = .returned (.tuple #[.agg #[.slice a (y7 c L ls).length cp], .int .i64 (vX c L ls)]) ∧ RS (.slice a (y7 c L ls).length cp) (y7 c L ls) w' ∧ Below w.heap.size w w' := by
 obtain ⟨ad, cu, rfl, hcu⟩ := hu.len
 by_cases hV : jk c = true
 ·by_cases hA : (L.length : Int) = yV c
  ·have e1 : y7 c L ls = if jh c = 0 then xk (xj c L (qh ls) (jG c)) else [] := if_pos ⟨hV, hA⟩
   have e2 : vX c L ls = if jh c = 0 then yz (xj c L (qh ls) (jG c)) else jh c := if_pos ⟨hV, hA⟩
   by_cases hF : jh c = 0
   ·rw [e1, e2, if_pos hF, if_pos hF]
    have hL : L.length = areaN c := by have := uF (xY hF); omega
    exact Wl v ls c _ L w h tk hn hF hu hL okL
   ·rw [e1, e2, if_neg hF, if_neg hF]
    refine (KC v ls c ad L.length cu w h hLn hV hA.symm _ rfl hF).mono fun e w' ⟨he, hb⟩ => ?_
    exact ⟨none, 0, he, RS.nil _, hb⟩
  ·have e1 : y7 c L ls = [] := if_neg (fun e => hA e.2)
   have e2 : vX c L ls = 1 := if_neg (fun e => hA e.2); rw [e1, e2]; refine (KH v ls c ad L.length cu w h hLn hV _ rfl hA).mono fun e w' ⟨he, hb⟩ => ?_
   exact ⟨none, 0, he, RS.nil _, hb⟩
 ·have e1 : y7 c L ls = [] := if_neg (fun e => hV e.1)
  have e2 : vX c L ls = 1 := if_neg (fun e => hV e.1); rw [e1, e2]; refine (KD v ls c ad L.length cu w h hLn (by simpa using hV)).mono fun e w' ⟨he, hb⟩ => ?_
  exact ⟨none, 0, he, RS.nil _, hb⟩
theorem zdv (v : Value) (ls : List TA) (c : Rc) (u : Value) (L : List Px) (w : World) (h : RS v ls w) (tk : qQ ls) (hn : ls.length ≤ maxLen) (hu : xh yq u L w) (hLn : L.length ≤ maxLen) (okL : Ks L) : Calls Tryz.prog 97 #[.agg #[v], .agg (jy c u)] w fun e w' => ∃ a cp, e = .returned (.agg #[.slice a (y7 c L ls).length cp, .int .i64 (vX c L ls)]) ∧ RS (.slice a (y7 c L ls).length cp) (y7 c L ls) w' ∧ Below w.heap.size w w' := by
 obtain ⟨ad, cu, rfl, hcu⟩ := hu.len
 by_cases hV : jk c = true
 ·by_cases hA : (L.length : Int) = yV c
  ·have e1 : y7 c L ls = if jh c = 0 then xk (xj c L (qh ls) (jG c)) else [] := if_pos ⟨hV, hA⟩
   have e2 : vX c L ls = if jh c = 0 then yz (xj c L (qh ls) (jG c)) else jh c := if_pos ⟨hV, hA⟩
   by_cases hF : jh c = 0
   ·rw [e1, e2, if_pos hF, if_pos hF]
    have hL : L.length = areaN c := by have := uF (xY hF); omega
    exact Wr v ls c _ L w h tk hn hF hu hL okL
   ·rw [e1, e2, if_neg hF, if_neg hF]
    refine (KU v ls c ad L.length cu w h hLn hV hA.symm _ rfl hF).mono fun e w' ⟨he, hb⟩ => ?_
    exact ⟨none, 0, he, RS.nil _, hb⟩
  ·have e1 : y7 c L ls = [] := if_neg (fun e => hA e.2)
   have e2 : vX c L ls = 1 := if_neg (fun e => hA e.2); rw [e1, e2]; refine (KW v ls c ad L.length cu w h hLn hV _ rfl hA).mono fun e w' ⟨he, hb⟩ => ?_
   exact ⟨none, 0, he, RS.nil _, hb⟩
 ·have e1 : y7 c L ls = [] := if_neg (fun e => hV e.1)
  have e2 : vX c L ls = 1 := if_neg (fun e => hV e.1); rw [e1, e2]; refine (KV v ls c ad L.length cu w h hLn (by simpa using hV)).mono fun e w' ⟨he, hb⟩ => ?_
  exact ⟨none, 0, he, RS.nil _, hb⟩
theorem zc2 (v : Value) (ls ks : List TA) (E : Int) (c : Rc) (u : Value) (L : List Px) (w : World) (h : RS v ls w) (tk : qQ ls) (hn : ls.length ≤ maxLen) (hu : xh yq u L w) (hLn : L.length ≤ maxLen) (okL : Ks L) (e1 : y7 c L ls = ks) (e2 : vX c L ls = E) : Calls Tryz.prog 77 #[.agg #[v], .agg (jy c u)] w fun e w' => ∃ a cp, e = .returned (.tuple #[.agg #[.slice a ks.length cp], .int .i64 E]) ∧ RS (.slice a ks.length cp) ks w' ∧ Below w.heap.size w w' := by
 subst e1 e2
 exact zc1 v ls c u L w h tk hn hu hLn okL
theorem zdw (v : Value) (ls ks : List TA) (E : Int) (c : Rc) (u : Value) (L : List Px) (w : World) (h : RS v ls w) (tk : qQ ls) (hn : ls.length ≤ maxLen) (hu : xh yq u L w) (hLn : L.length ≤ maxLen) (okL : Ks L) (e1 : y7 c L ls = ks) (e2 : vX c L ls = E) : Calls Tryz.prog 97 #[.agg #[v], .agg (jy c u)] w fun e w' => ∃ a cp, e = .returned (.agg #[.slice a ks.length cp, .int .i64 E]) ∧ RS (.slice a ks.length cp) ks w' ∧ Below w.heap.size w w' := by
 subst e1 e2
 exact zdv v ls c u L w h tk hn hu hLn okL
theorem Wg (K : Act → World → Prop) : zI (qN K) = qN K := by
 funext e a w
 cases e <;> rfl
section
variable {P : Program} {n0 r : Nat}
theorem VH {id : Nat} {Q : Exit → Act → World → Prop} {a : Act} {w : World} {l : List Oper} (hd : Za l = true) (n : Nat) (S : List (Nat × j2)) (hm : P.follows .mixedOrders = true) (hB : vB .any l.toArray n = true) (hS0 : zac l.toArray (S.map (·.1)) = true)
  (h : uz P .any l.toArray (qN fun a w => Q .normal a w) (fun w' => ∃ u, w' = ov w u) (Yb S) (fun E a' => ∀ w', Below w.heap.size w w' → (∀ j, E j w') → wpList P l.toArray (zI (qN fun a w => Q .normal a w)) (l.drop n) a' w') (l.take n) 0 (fun _ _ => True) a) : (Code.region id l.toArray true).wpIn (Fence.wide.inRound r) n0 P Q a w := by
 have hn : n ≤ l.length := by
  have hB' := hB; simp only [vB, Bool.and_eq_true, decide_eq_true_eq] at hB'
  simpa using hB'.1.1.1
 have hlen : (l.take n).length = n := by simp; omega
 have h' := h fun j hj => by
  rw [hlen] at hj; simp [hj]
 rw [hlen, ← List.range_eq_range'] at h'
 have hS := Xk hS0
 simp only [vB, Bool.and_eq_true, decide_eq_true_eq] at hB
 obtain ⟨⟨⟨hn, hR⟩, htl⟩, hseq⟩ := hB
 refine zcm hm hd ?_
 rw [← Wg]
 have hdl : (l.drop n).length = l.toArray.size - n := by simp
 have := Xv (P := P) (Q := qN fun a w => Q .normal a w) (md := .any) (C := fun w' => ∃ u, w' = ov w u) (S := Yb S) (g := (l.drop n).length) hR htl (fun w1 w2 ⟨u, hu⟩ hb => by
   subst hu; exact ⟨w2, zC ((ji w u).trans (hb.mono (ji w u).size))⟩) hS
  (L := fun E a' => ∀ w', Below w.heap.size w w' → (∀ j, E j w') → wpList P l.toArray (zI (qN fun a w => Q .normal a w)) (l.drop n) a' w')
  (fun listed a' E w' zf hall hL ⟨u, hu⟩ hE => by
   have hT : listed = Array.replicate n true ++ Array.replicate (l.toArray.size - n) false := by
    apply Array.ext_getElem?
    intro j; rw [Array.getElem?_append, Array.size_replicate]; by_cases hjs : j < l.toArray.size
    ·have hjl : j < listed.size := by omega
     have h1 := hall j hjs; rw [Array.getD_eq_getD_getElem?, Array.getElem?_eq_getElem hjl, Option.getD_some] at h1; rw [Array.getElem?_eq_getElem hjl, h1]; by_cases hj : j < n
     ·rw [if_pos hj, Array.getElem?_replicate, if_pos hj, zQ hj]
     ·rw [if_neg hj, Array.getElem?_replicate, if_pos (by omega), zB hj]
    ·rw [Array.getElem?_eq_none (by omega), if_neg (by omega), Array.getElem?_replicate, if_neg (by omega)]
   rw [hT]; refine wpAny_of_seq (l.drop n) n _ a' w' (fun j => by simp [List.getElem?_drop]) (by rw [hdl]; exact hseq) ?_
   subst hu; exact hL _ (ji w u) hE)
  n (List.range n) (Array.replicate l.toArray.size false) a (fun _ _ => True) w.drew (by simp) List.pairwise_lt_range (by simp) (fun k => by
   rw [List.mem_range, decide_eq_true_eq]; refine ⟨fun hk => ⟨by omega, hk, getD_in (by rw [Array.size_replicate]; omega) (getD_replicate_false _ _)⟩, fun hk => hk.2.1⟩)
  (fun t hts _ => getD_in (by rw [Array.size_replicate]; exact hts) (getD_replicate_false _ _)) (fun j oj _ hl => (by rw [getD_replicate_false] at hl; cases hl))
  ⟨w.drew, zC ((Below.refl _ _).drew)⟩ (fun _ => trivial) (fun _ _ _ _ _ => trivial) h'
 rw [hdl, show n + (l.toArray.size - n) = l.toArray.size by omega] at this
 exact this
end
theorem x4 {t u : TypeId} {fn : Func} {p r : Tmp} (h : fn.results = #[.cell p t, .cell r u]) (tmps : Array Value) (w : World) (b c : Nat) (hp : tmps.getD p undef = .pointer (some ⟨b, 0, none⟩)) (hr : tmps.getD r undef = .pointer (some ⟨c, 0, none⟩)) {cs : Array Value} {v : Value} (ht : zw t w b cs) (hu : (Instr.loadAt u (.pointer (some ⟨c, 0, none⟩))).run Tryz.prog w = .ok v w) (hagg : ∀ w : World, (isAgg t).run Tryz.prog w = .ok true w) (zf : (Tryz.prog.info? t).map (·.size) = some cs.size) :
  (results fn tmps).run Tryz.prog w = .ok (.tuple #[.agg cs, v]) w := by
 have hl := qE ht hagg zf
 simp only [Instr.loadAt, Instr.sureAddr, Sem.run_bind, Sem.run_pure, Result.andThen_ok] at hl hu
 unfold results
 rw [h]
 have hp' : tmps[p]?.getD undef = .pointer (some ⟨b, 0, none⟩) := by simpa using hp
 have hr' : tmps[r]?.getD undef = .pointer (some ⟨c, 0, none⟩) := by simpa using hr
 simp [hp', hr', Instr.sureAddr, asAddr, hl, hu, Sem.run_bind, Sem.run_pure, Result.andThen_ok]
theorem RS.own3 {v : Value} {ls : List TA} {W W' : World} {row : Option Nat} (h : RS v ls W) (hg : W.grownBy W' row) (hr : ∀ r, row = some r → (∃ o : Obj, W.heap[r]? = some o ∧ o.isCells = false) ∨ ∃ cs t, W.heap[r]? = some (.cells cs t (0, 0)) ∧ cs.size = 3) : RS v ls W' := by
 rcases h with h | ⟨g, o, c, e, hcap, sc⟩
 ·exact .inl h
 ·refine .inr ⟨g, o, c, e, hcap, fun hn => (sc hn).of_eq (hg.block g (sc hn).lt fun hg => ?_)⟩
  rcases hr g hg.symm with ⟨x, hx, hc⟩ | ⟨cs, t, hx, hs⟩
  ·have h0 := (sc hn).2 0 hn 0 (by omega)
   have hs : ∃ v, (xE (aT ls 0))[0]? = some v := ⟨_, Array.getElem?_eq_getElem (by rw [zP]; omega)⟩
   obtain ⟨v, hv⟩ := hs; rw [hv] at h0; have := JL h0 x hx; rw [hc] at this; cases this
  ·have h1 := (sc hn).2 0 hn 257 (by omega)
   rw [cell_of_row W g _ cs _ (0, 0) hx] at h1; have h2 : (xE (aT ls 0))[257]? ≠ none := by
    rw [Ne, Array.getElem?_eq_none_iff, zP]; omega
   rw [← h1, Ne, Array.getElem?_eq_none_iff] at h2; omega
theorem Kw (v : Value) (ls : List TA) (c : Rc) (w : World) (h : RS v ls w) (tk : qQ ls) (hv : ql ls = true) (hE : jh c = 0) : Calls Tryz.prog 76 #[.agg #[v], .agg (jP c)] w fun e w' => ∃ cb, w.heap.size ≤ cb ∧ e = .returned (.tuple #[.agg (jy c (.slice (some ⟨cb, 0, none⟩) (areaN c) (areaN c))), .int .i64 0]) ∧ jW yq w' cb (JT c ls) ∧ Below w.heap.size w w' := by
 have B := Below.refl w.heap.size w
 have hn : ls.length ≤ maxLen := by have := (xp.1 hv).1; unfold maxLen; omega
 have HIM := zo (show zgR c (qh ls) = JT c ls from by rw [kQ hv]; exact zd4 (xY hE) hv)
 obtain ⟨a', c', hT⟩ := zas v ls w h tk hn
 have HR0 := zo (hT w (Below.refl _ _)).2
 have HT := zo hT
 clear hT
 obtain ⟨a, cp, rfl, hc⟩ := h.len
 have TK := zo (yk tk)
 have HP := zo (zdZ ls)
 have hfl := vj ls
 have FT := zo (xY hE)
 obtain ⟨an1, an2⟩ := wU FT.out
 have AR : Hid (∀ w, Calls Tryz.prog 125 #[.agg #[.int .i64 c.x0, .int .i64 c.y0, .int .i64 c.x1, .int .i64 c.y1]] w fun e w' => e = .returned (.int .i64 (areaN c : Int)) ∧ Below w.heap.size w w') := zo fun w => by
  have := zcI c w FT.out.valid; rw [uF FT.out] at this; exact this
 have FE : Hid (∀ w, Calls Tryz.prog 124 #[.agg #[.int .i64 c.x0, .int .i64 c.y0, .int .i64 c.x1, .int .i64 c.y1]] w fun e w' => e = .returned (.int .i64 0) ∧ Below w.heap.size w w') := zo fun w => by
  have := zc7 c w; rw [hE] at this; exact this
 have eg := enters_of func127 (by kernel_rfl) rfl
 clear h tk hE hv
 show Calls Tryz.prog 76 #[.agg #[.slice a ls.length cp], .agg #[.int .i64 c.x0, .int .i64 c.y0, .int .i64 c.x1, .int .i64 c.y1]] w _
 go_enter func76, ntmps76
 go_upto_region 4 with (first | (go_at_call 124; refine (FE.out _).mono ?_; rintro e wn ⟨rfl, za⟩; obtain ⟨zf, zg, B⟩ := zM B za; replace r1 := r1.be za; replace r0 := r0.be za; replace m4 := m4.be za) | (refine zp (t := 38) rfl _ rfl _ _ _ rfl (yI r0) (by rfl) ?_; simp only [zn]) | (have _ := r0; refine jH (t := 117) (ym _ _ rfl) B ?_; clear B; intro b_m4 wn zb zd m4 za zf zk B; replace r1 := r1.be za; replace r0 := r0.be za) | (have _ := r1; refine jd (t := 38) B ?_; clear B; intro b_r0 wn zb zd r0 za zf zk B; replace r1 := r1.be za) | (refine jd (t := 64) B ?_; clear B; intro b_r1 wn zb zd r1 za zf zk B) | fail)
 have q1 : w.heap.size ≤ b_r1 := by omega
 have q2 : b_r1 < b_r0 := by omega
 have q3 : b_r0 < b_m4 := by omega
 have q4 := m4.lt
 go_cut [7] from 14 to 18 (fun s wx => ∃ b_m7 b_row, s = .pointer (some ⟨b_m7, 0, none⟩) ∧ zw 117 wx b_m7 (jy c (.slice (some ⟨b_row, 0, none⟩) (areaN c) (areaN c))) ∧ jW yq wx b_row (List.replicate (areaN c) Px.zero) ∧ Below w.heap.size w wx ∧ b_m4 < b_m7 ∧ b_m4 < b_row ∧ b_m7 ≠ b_row ∧ zw 64 wx b_r1 #[.slice a ls.length cp] ∧ zw 38 wx b_r0 (jP c) ∧ zw 117 wx b_m4 (jy Rc.zero (.slice none 0 0)))
 case first =>
  have r1B := r1
  have r0B := r0
  have m4B := m4
  refine kl 6 #[false, false, false, false, false, false, false] (by kernel_rfl) (by kernel_rfl) ?_; intro wn za; have hX := za; obtain ⟨zf, zg, B⟩ := zM B za; try replace r1 := r1.be za
  replace r0 := r0.be za
  replace m4 := m4.be za
  simp only [List.length_cons, List.length_nil, Nat.reduceAdd]; refine z6 0 rfl (by kernel_rfl) ⟨_, zC hX⟩ ?_; intro K hK; try simp only [zR]
  (first | (refine zq (fun w hw => yI (zY r0B w hw)) ?_; simp only [zn]; go_big_quiet_on) | (go_big_quiet_op; go_big_quiet_on))
  simp only [zn]; refine z6 1 rfl (by kernel_rfl) ⟨_, zC hX⟩ ?_; intro K hK; try simp only [zR]
  (first | (refine zq (fun w hw => yI (zY r0B w hw)) ?_; simp only [zn]; go_big_quiet_on) | (go_big_quiet_op; go_big_quiet_on))
  simp only [zn]; refine j9 2 5 rfl rfl (by kernel_rfl) rfl rfl (fun K hK => ?_) (fun K hK => ?_)
  ·skip
   try simp only [zR]
   go_simp
   go_at_call 125
   refine (AR.out _).mono ?_; rintro e wn ⟨rfl, za⟩; have zf := B.size; have zg := za.size; have hsx := hX.size; replace B := B.trans (za.mono B.size); replace hX := hX.trans (za.mono hX.size); try replace r1 := r1.be za
   replace r0 := r0.be za
   replace m4 := m4.be za
   refine hK _ _ ⟨fun _ => ⟨_, zC hX⟩, ?_⟩; clear hK K; try simp only [zR]
   simp only [zn]; refine j9 3 5 rfl rfl (by kernel_rfl) rfl rfl (fun K hK => ?_) (fun K hK => ?_)
   ·skip
    try simp only [zR]
    refine QD (E := yq) _ _ rfl (areaN c) (by rfl) (by rfl) (by omega) (by omega) ?_; intro b_row wn zb zd ht za zg; have zf := B.size; have hsx := hX.size; replace B := B.trans (za.mono (by omega)); replace hX := hX.trans (za.mono (by omega)); try replace r1 := r1.be (za.mono zb)
    replace r0 := r0.be (za.mono zb)
    replace m4 := m4.be (za.mono zb)
    have row := ht; clear ht; refine hK _ _ ⟨fun _ => ⟨_, zC hX⟩, ?_⟩; clear hK K; try simp only [zR]
    simp only [zn]; refine z6 4 rfl (by kernel_rfl) ⟨_, zC hX⟩ ?_; intro K hK; try simp only [zR]
    (first | (refine zq (fun w hw => yI (zY r0B w hw)) ?_; simp only [zn]; go_big_quiet_on) | (go_big_quiet_op; go_big_quiet_on))
    simp only [zn]; refine zU 5 rfl (by kernel_rfl) rfl (fun K hK => ?_); try simp only [zR]
    refine zO (t := 117) _ (ym _ _ rfl) ?_; intro b_m7 wn zb zd ht za zg; have zf := B.size; have hsx := hX.size; replace B := B.trans (za.mono (by omega)); replace hX := hX.trans (za.mono (by omega)); try replace r1 := r1.be (za.mono zb)
    replace r0 := r0.be (za.mono zb)
    replace m4 := m4.be (za.mono zb)
    replace row := row.be (za.mono zb)
    have m7 := ht; clear ht; refine hK _ _ ⟨fun _ => ⟨_, zC hX⟩, ?_⟩; clear hK K; try simp only [zR]
    simp only [zn]; refine qT (by kernel_rfl) (by kernel_rfl) ?_; simp only [List.drop_succ_cons, List.drop_zero]; go_wp2_with (first | (refine qZ (hone := (by simp [jy, Value.oneCell'])) m7 B ?_; clear m7 B; intro wn m7 ze zf zg B; replace r1 := r1.cg ze; replace r0 := r0.cg ze; replace m4 := m4.cg ze; replace row := row.cg ze) | fail)
    refine zI.normal ?_; go_wp2_with fail
    go_meet; exact ⟨b_m7, b_row, rfl, m7, row, B, by omega, by omega, by omega, r1, r0, m4⟩
   ·skip
    try simp only [zR]
    refine zO (t := 117) _ (ym _ _ rfl) ?_; intro b_m7 wn zb zd ht za zg; have zf := B.size; have hsx := hX.size; replace B := B.trans (za.mono (by omega)); replace hX := hX.trans (za.mono (by omega)); try replace r1 := r1.be (za.mono zb)
    replace r0 := r0.be (za.mono zb)
    replace m4 := m4.be (za.mono zb)
    have m7 := ht; clear ht; refine hK _ _ ⟨fun _ => ⟨_, zC hX⟩, ?_⟩; clear hK K; try simp only [zR]
    simp only [zn]; refine zU 3 rfl (by kernel_rfl) rfl (fun K hK => ?_); try simp only [zR]
    refine QD (E := yq) _ _ rfl (areaN c) (by rfl) (by rfl) (by omega) (by omega) ?_; intro b_row wn zb zd ht za zg; have zf := B.size; have hsx := hX.size; replace B := B.trans (za.mono (by omega)); replace hX := hX.trans (za.mono (by omega)); try replace r1 := r1.be (za.mono zb)
    replace r0 := r0.be (za.mono zb)
    replace m4 := m4.be (za.mono zb)
    replace m7 := m7.be (za.mono zb)
    have row := ht; clear ht; refine hK _ _ ⟨fun _ => ⟨_, zC hX⟩, ?_⟩; clear hK K; try simp only [zR]
    simp only [zn]; refine z6 4 rfl (by kernel_rfl) ⟨_, zC hX⟩ ?_; intro K hK; try simp only [zR]
    (first | (refine zq (fun w hw => yI (zY r0B w hw)) ?_; simp only [zn]; go_big_quiet_on) | (go_big_quiet_op; go_big_quiet_on))
    simp only [zn]; refine qT (by kernel_rfl) (by kernel_rfl) ?_; simp only [List.drop_succ_cons, List.drop_zero]; go_wp2_with (first | (refine qZ (hone := (by simp [jy, Value.oneCell'])) m7 B ?_; clear m7 B; intro wn m7 ze zf zg B; replace r1 := r1.cg ze; replace r0 := r0.cg ze; replace m4 := m4.cg ze; replace row := row.cg ze) | fail)
    refine zI.normal ?_; go_wp2_with fail
    go_meet; exact ⟨b_m7, b_row, rfl, m7, row, B, by omega, by omega, by omega, r1, r0, m4⟩
  ·skip
   try simp only [zR]
   refine zO (t := 117) _ (ym _ _ rfl) ?_; intro b_m7 wn zb zd ht za zg; have zf := B.size; have hsx := hX.size; replace B := B.trans (za.mono (by omega)); replace hX := hX.trans (za.mono (by omega)); try replace r1 := r1.be (za.mono zb)
   replace r0 := r0.be (za.mono zb)
   replace m4 := m4.be (za.mono zb)
   have m7 := ht; clear ht; refine hK _ _ ⟨fun _ => ⟨_, zC hX⟩, ?_⟩; clear hK K; try simp only [zR]
   simp only [zn]; refine zU 2 rfl (by kernel_rfl) rfl (fun K hK => ?_); try simp only [zR]
   go_simp
   go_at_call 125
   refine (AR.out _).mono ?_; rintro e wn ⟨rfl, za⟩; have zf := B.size; have zg := za.size; have hsx := hX.size; replace B := B.trans (za.mono B.size); replace hX := hX.trans (za.mono hX.size); try replace r1 := r1.be za
   replace r0 := r0.be za
   replace m4 := m4.be za
   replace m7 := m7.be za
   refine hK _ _ ⟨fun _ => ⟨_, zC hX⟩, ?_⟩; clear hK K; try simp only [zR]
   simp only [zn]; refine zU 3 rfl (by kernel_rfl) rfl (fun K hK => ?_); try simp only [zR]
   refine QD (E := yq) _ _ rfl (areaN c) (by rfl) (by rfl) (by omega) (by omega) ?_; intro b_row wn zb zd ht za zg; have zf := B.size; have hsx := hX.size; replace B := B.trans (za.mono (by omega)); replace hX := hX.trans (za.mono (by omega)); try replace r1 := r1.be (za.mono zb)
   replace r0 := r0.be (za.mono zb)
   replace m4 := m4.be (za.mono zb)
   replace m7 := m7.be (za.mono zb)
   have row := ht; clear ht; refine hK _ _ ⟨fun _ => ⟨_, zC hX⟩, ?_⟩; clear hK K; try simp only [zR]
   simp only [zn]; refine z6 4 rfl (by kernel_rfl) ⟨_, zC hX⟩ ?_; intro K hK; try simp only [zR]
   (first | (refine zq (fun w hw => yI (zY r0B w hw)) ?_; simp only [zn]; go_big_quiet_on) | (go_big_quiet_op; go_big_quiet_on))
   simp only [zn]; refine qT (by kernel_rfl) (by kernel_rfl) ?_; simp only [List.drop_succ_cons, List.drop_zero]; go_wp2_with (first | (refine qZ (hone := (by simp [jy, Value.oneCell'])) m7 B ?_; clear m7 B; intro wn m7 ze zf zg B; replace r1 := r1.cg ze; replace r0 := r0.cg ze; replace m4 := m4.cg ze; replace row := row.cg ze) | fail)
   refine zI.normal ?_; go_wp2_with fail
   go_meet; exact ⟨b_m7, b_row, rfl, m7, row, B, by omega, by omega, by omega, r1, r0, m4⟩
 case rest =>
  obtain ⟨b_m7, b_row, rfl, m7, row, B, p1, p2, p3, r1, r0, m4⟩ := hcut; have k0 : w.heap.size ≤ b_row := by omega
  have k1 : b_r0 ≠ b_row := by omega
  have k2 : b_m7 ≠ b_row := p3; have k3 : b_m4 ≠ b_row := by omega
  have k4 : b_m7 ≠ b_m4 := by omega
  go_wp2_with (first | (refine qZ (hone := (by simp [jy, Value.oneCell'])) m4 B ?_; clear m4 B; intro wn m4 ze zf zg B; replace r0 := r0.cg ze; replace m7 := m7.cg ze; replace row := row.cg ze) | (refine zp (t := 117) rfl _ rfl _ _ _ rfl (ub m7) (by rfl) ?_; simp only [zn]) | (go_at_call 126; have hr0 := r0.lt; have hr1 := m7.lt; have hr2 := row.lt; have hsp := W8 HR0.out k0; have zf := B.size; refine (KM (wA c) (fun s W => zw 38 W b_r0 (jP c) ∧ zw 117 W b_m7 (jy c (.slice (some ⟨b_row, 0, none⟩) (areaN c) (areaN c))) ∧ jW yq W b_row s ∧ s.length = areaN c) b_row 127 #[.pointer (some ⟨b_r0, 0, none⟩), .pointer (some ⟨b_m7, 0, none⟩)] eg _ (qh ls) (List.replicate (areaN c) Px.zero) _ (HT.out _ B).2 TK.out (by omega) HP.out hr2 hsp ⟨r0, m7, row, by simp⟩ (fun s W W' hI hk => ⟨hI.1.of_eq (hk _ hr0), hI.2.1.of_eq (hk _ hr1), hI.2.2.1.of_eq (hk _ hr2), hI.2.2.2⟩) (fun s W x y p _ hI h1 h2 h3 h4 hp => (zcX c FT.out s hI.2.2.2 x y p b_r0 b_m7 b_row W hI.1 hI.2.1 hI.2.2.1 k1 k2).mono fun e W' hh => ⟨hh.1, ⟨hh.2.1.1, hh.2.1.2.1, hh.2.1.2.2, (zd2 c s x y p).trans hI.2.2.2⟩, hh.2.2⟩) (zf5 c)).mono ?_; rintro e wn ⟨v1, rfl, _, hI, hcc⟩; have zg := hcc.size; replace m4 := m4.of_eq (hcc.block _ m4.lt k3); replace B := qY.be B hcc k0 zf; obtain ⟨r0, m7, row, hlen⟩ := hI) | (go_at_call 104; refine (HT.out _ B).1.mono ?_; rintro e wn ⟨rfl, za⟩; obtain ⟨zf, zg, B⟩ := zM B za; replace r1 := r1.be za; replace r0 := r0.be za; replace m4 := m4.be za; replace m7 := m7.be za; replace row := row.be za) | (first | refine yN ?_ | refine yO ?_) | fail)
  refine yP m4 ?_; refine ⟨_, k0, rfl, ?_, B⟩; rw [← HIM.out]; exact row
def vW (c : Rc) (F G : Int → Int → Px) (k : Nat) : List Px := (List.range (areaN c)).map fun j => if j < k then F (um c j) (un c j) else G (um c j) (un c j)
theorem zea (c : Rc) (F G : Int → Int → Px) (k : Nat) : (vW c F G k).length = areaN c := by unfold vW; rw [List.length_map, List.length_range]
theorem zb0 (c : Rc) (ls : List TA) (F : Int → Int → Px) : vW c F (fun x y => xJ ls x y) 0 = JT c ls := by
 unfold vW JT
 refine List.map_congr_left fun j _ => ?_
 rw [if_neg (by omega)]
theorem zd9 (c : Rc) (F G : Int → Int → Px) : vW c F G (areaN c) = kE c F := by
 unfold vW kE
 refine List.map_congr_left fun j hj => ?_
 rw [if_pos (List.mem_range.1 hj)]
theorem zf9 (c : Rc) (F G : Int → Int → Px) {k : Nat} (h : k < areaN c) : (vW c F G k)[k]? = some (G (um c k) (un c k)) := by
 unfold vW
 rw [List.getElem?_map, List.getElem?_range h]
 show some (if k < k then _ else _) = _
 rw [if_neg (by omega)]
theorem zeb (c : Rc) (F G : Int → Int → Px) {k : Nat} (h : k < areaN c) : (vW c F G k).set k (F (um c k) (un c k)) = vW c F G (k + 1) := by
 apply List.ext_getElem?
 intro j
 rw [List.getElem?_set]
 unfold vW
 by_cases e : k = j
 ·subst e
  rw [if_pos rfl, if_pos (by rw [List.length_map, List.length_range]; exact h), List.getElem?_map, List.getElem?_range h]
  show _ = some (if k < k + 1 then _ else _)
  rw [if_pos (by omega)]
 ·rw [if_neg e]
  by_cases hj : j < areaN c
  ·rw [List.getElem?_map, List.getElem?_map, List.getElem?_range hj]
   show some (if j < k then _ else _) = some (if j < k + 1 then _ else _)
   by_cases hk : j < k
   ·rw [if_pos hk, if_pos (by omega)]
   ·rw [if_neg hk, if_neg (by omega)]
  ·rw [List.getElem?_eq_none (by rw [List.length_map, List.length_range]; omega), List.getElem?_eq_none (by rw [List.length_map, List.length_range]; omega)]
theorem zbZ (c : Rc) (F G : Int → Int → Px) {k : Nat} (h : F (um c k) (un c k) = G (um c k) (un c k)) : vW c F G (k + 1) = vW c F G k := by
 unfold vW
 refine List.map_congr_left fun j _ => ?_
 by_cases hk : j < k
 ·rw [if_pos hk, if_pos (by omega)]
 ·rw [if_neg hk]
  by_cases hj : j < k + 1
  ·rw [if_pos hj, show j = k by omega, h]
  ·rw [if_neg hj]
theorem zed {c : Rc} (hf : xM c) (F G : Int → Int → Px) {i j : Nat} (hj : (j : Int) < c.x1 - c.x0) (hi : (i : Int) < c.y1 - c.y0) : i * widN c + j < areaN c ∧ (vW c F G (i * widN c + j))[i * widN c + j]? = some (G (c.x0 + j) (c.y0 + i)) ∧ (vW c F G (i * widN c + j)).set (i * widN c + j) (F (c.x0 + j) (c.y0 + i)) = vW c F G (i * widN c + (j + 1)) ∧ (F (c.x0 + j) (c.y0 + i) = G (c.x0 + j) (c.y0 + i) → vW c F G (i * widN c + (j + 1)) = vW c F G (i * widN c + j)) := by
 obtain ⟨k, e, hk, ex, ey⟩ := za8 hf hj hi
 have hw : c.x1 - c.x0 = (widN c : Int) := by unfold widN; have := hf.h1; omega
 have ek : k = i * widN c + j := by
  rw [hw] at e; omega
 subst ek
 have h1 := zf9 c F G hk
 have h2 := zeb c F G hk
 have h3 := zbZ c F G (k := i * widN c + j)
 rw [ex, ey] at h1 h2 h3
 rw [← Nat.add_assoc]
 exact ⟨hk, h1, h2, h3⟩
def chP (s : jb) (p : Px) (n : Int) : Px := if s.era = true then uj p (255 - n) else vP p s.col 0 n
theorem zaS (s : jb) (n : Int) (p : Px) : ux s n p = if 0 < n then chP s p n else p := rfl
theorem vZ (w : World) (o : Oper) (ho : o.op = .alloc 28) (ev : Operand → Value) : (execOp ev o).run Tryz.prog w = .ok (.value (.pointer (some ⟨w.heap.size, 0, none⟩))) (w.alloc (.cells #[.int .u8 0, .int .u8 0, .int .u8 0, .int .u8 0] 28)) := by
 obtain ⟨d, p, t, ps, af, gd⟩ := o
 simp only at ho
 subst ho
 kernel_rfl
theorem zfo (q r : Px) (c : Int) (w : World) (hq : q.ok) (e : uj q c = r) : Calls Tryz.prog 75 #[.agg (yq.enc q), .int .i64 c] w fun e w' => e = .returned (.agg (yq.enc r)) ∧ Below w.heap.size w w' := e ▸ zg3 q c w hq
theorem zfq (q p r : Px) (m c : Int) (w : World) (hq : q.ok) (hp : p.ok) (e : vP q p m c = r) : Calls Tryz.prog 73 #[.agg (yq.enc q), .agg (yq.enc p), .int .i64 m, .int .i64 c] w fun e w' => e = .returned (.agg (yq.enc r)) ∧ Below w.heap.size w w' := e ▸ zg5 q p m c w hq hp
theorem zcY (v : Value) (s : jb) (p q : Px) (n : Int) (b : Nat) (w : World) (s2 : zw 30 w b (jg v s)) (hp : p.ok) (hc : s.col.ok) (e : vP p s.col 0 n = q) : Calls Tryz.prog 72 #[.agg (yq.enc p), .int .i64 n, .pointer (some ⟨b, 0, none⟩)] w fun e w' => e = .returned (.agg (yq.enc q)) ∧ Below w.heap.size w w' := by
 have B := Below.refl w.heap.size w
 have HP := zo hp
 have HC := zo hc
 have HE := zo e
 clear hp hc e
 go_enter func72, ntmps72
 go_upto_region 0 with fail
 refine wp_region_lit ?_
 try simp only [zR]
 (refine jd (t := 28) B ?_; clear B; intro b_r3 wn zb zd r3 za zf zk B; replace s2 := s2.be za)
 (refine jH (t := 28) (vZ _ _ rfl) B ?_; clear B; intro b_r5 wn zb zd r5 za zf zk B; replace r3 := r3.be za; replace s2 := s2.be za)
 refine wpList_nil ?_
 have k1 : b_r3 < b_r5 := by have := r3.lt; omega
 replace r3 : zw 28 _ b_r3 (yq.enc p) := r3
 go_upto_region 1 with fail
 refine wp_region_lit ?_
 try simp only [zR]
 refine jD 4 ?_
 repeat (first | go_big_quiet_skip | (go_big_quiet_want; first | ((first | refine zq (fun w hw => xy (zY s2 w hw)) ?_ | refine qB ?_ | refine qC ?_); simp only [zn]; go_big_quiet_on) | (go_big_quiet_op; go_big_quiet_on)))
 refine wpQuiet_nil ?_
 refine qe B (zE func73) (c := zfq p s.col q 0 n _ HP.out HC.out HE.out) ?_
 clear B
 intro wn za zf zg B
 replace r5 := r5.be za
 (refine qZ (hone := (by simp [yq, WY, Value.oneCell'])) r5 B ?_; clear r5 B; intro wn r5 ze zf zg B)
 refine wpList_nil ?_
 first | (refine qO r5 ?_) | (go_step; refine qO r5 ?_) | (go_step; go_step; refine qO r5 ?_) | (go_step; go_step; go_step; refine qO r5 ?_) | (go_step; go_step; go_step; go_step; refine qO r5 ?_) | (go_step; go_step; go_step; go_step; go_step; refine qO r5 ?_)
 exact ⟨rfl, B⟩
theorem zcZ (p q : Px) (n : Int) (w : World) (hn : 0 ≤ n ∧ n ≤ 255) (hp : p.ok) (e : uj p (255 - n) = q) : Calls Tryz.prog 74 #[.agg (yq.enc p), .int .i64 n] w fun e w' => e = .returned (.agg (yq.enc q)) ∧ Below w.heap.size w w' := by
 have B := Below.refl w.heap.size w
 have HP := zo hp
 have HE := zo e
 clear hp e
 go_enter func74, ntmps74
 go_upto_region 0 with fail
 refine wp_region_lit ?_
 try simp only [zR]
 (refine jd (t := 28) B ?_; clear B; intro b_r2 wn zb zd r2 za zf zk B)
 (refine jH (t := 28) (vZ _ _ rfl) B ?_; clear B; intro b_r4 wn zb zd r4 za zf zk B; replace r2 := r2.be za)
 refine wpList_nil ?_
 have k1 : b_r2 < b_r4 := by have := r2.lt; omega
 replace r2 : zw 28 _ b_r2 (yq.enc p) := r2
 go_upto_region 1 with fail
 refine wp_region_lit ?_
 try simp only [zR]
 refine jL 3 ?_
 refine qe B (zE func75) (c := zfo p q (255 - n) _ HP.out HE.out) ?_
 clear B
 intro wn za zf zg B
 replace r4 := r4.be za
 (refine qZ (hone := (by simp [yq, WY, Value.oneCell'])) r4 B ?_; clear r4 B; intro wn r4 ze zf zg B)
 refine wpList_nil ?_
 first | (refine qO r4 ?_) | (go_step; refine qO r4 ?_) | (go_step; go_step; refine qO r4 ?_) | (go_step; go_step; go_step; refine qO r4 ?_) | (go_step; go_step; go_step; go_step; refine qO r4 ?_) | (go_step; go_step; go_step; go_step; go_step; refine qO r4 ?_)
 exact ⟨rfl, B⟩
end Go.Proofs.YtepelndbbhdofaaGreatDoor
