import Derived.Test.YtepelndbbhdofaaGreatDoorKb4
import Derived.SizedLaws
import Derived.ChangeSlices
import Derived.Test.YtepelndbbhdofaaGreatDoorTie
import Derived.Test.YtepelndbbhdofaaGreatDoorCards
import Derived.LaidMore
import Derived.Stop.Joined
import Derived.Stop.LaidErr
import Derived.Lib.LaidTab
import Derived.SevenTiedAt

/- Contracts of Collect at dabs; of Dabs and Area of package stroke. -/
namespace Go.Proofs.YtepelndbbhdofaaGreatDoor
open Go.RowKit Go.Shelf Pl
set_option linter.unusedVariables false
set_option linter.unusedSimpArgs false
set_option maxRecDepth 20000
theorem XO (s : qS) (hv : JW s) (g o c b : Nat) (w : World) (r1 : zJ 30 w b (qR (.slice (some ⟨g, o, none⟩) s.pts.length c) s)) (hcap : s.pts.length ≤ c) (pc : zO qQ g o s.pts w) : Calls Tryz.prog 57 #[.func (.func 109) #[] #[.pointer (some ⟨b, 0, none⟩)]] w fun e w' => ∃ a cp, e = .returned (.slice a (xO s).length cp) ∧ qE vj w.heap.size (.slice a (xO s).length cp) (xO s) w' ∧ Below w.heap.size w w' := by
 have B := Below.refl w.heap.size w
 go_enter Tryz.func57, Tryz.ntmps57
 go_upto_region 1 with fail
 refine wp_region_lit ?_
 refine zy 1 ?_
 refine qT (enters_of Tryz.func108 (by kernel_rfl) rfl) (c := XM s hv g o c b _ r1 hcap pc) (h := ?_)
 rintro e wn ⟨a5, c5, rfl, od5, za⟩
 have zf := B.size
 have zg := za.size
 replace B := B.trans (za.mono B.size)
 refine ⟨_, rfl, ?_⟩
 simp only [zn]
 refine zy 1 ?_
 refine wpList_nil ?_
 go_wp2
 go_ret
 exact ⟨_, _, rfl, od5, B⟩
set_option maxHeartbeats 1000000 in
theorem Z9 (v : Value) (s : qS) (L : List Db) (w : World) (rs : j9 qQ v s.pts w) (hn : s.pts.length ≤ 17592186044416) (e : vD s = L) : Calls Tryz.prog 19 #[.agg (qR v s)] w fun e w' => ∃ a cp, e = .returned (.slice a L.length cp) ∧ qE vj w.heap.size (.slice a L.length cp) L w' ∧ Below w.heap.size w w' := by
 have B := Below.refl w.heap.size w
 obtain ⟨a, c, rfl, hc⟩ := rs.len
 cases hv : ju s with
 | false =>
  obtain rfl : L = [] := by rw [← e]; unfold vD; rw [hv]; rfl
  have HV := Lib.hid hv; clear hv e; go_enter Tryz.func19, Tryz.ntmps19
  go_upto_region 0 with fail
  refine wp_region_lit ?_
  (refine zt (t := 30) rfl _ rfl _ rfl (z6 B ?_); clear B; intro b_r1 wn zb zd r1 za zf zk B; (try have zh := rs.lt); (try replace rs := rs.below (za.mono zb)); simp only [zn])
  refine zy 1 ?_; refine wpList_nil ?_; go_upto_region 1 with fail
  refine wp_region_lit ?_; refine zy 1 ?_
  refine qT (enters_of Tryz.func16 (by kernel_rfl) rfl) (c := xz _ s false _ rs hn HV.out) (h := ?_); rintro e wn ⟨rfl, za⟩; have zf := B.size; have zg := za.size; replace B := B.trans (za.mono B.size)
  (try replace r1 := r1.below za)
  (try replace rs := rs.below za)
  refine ⟨_, rfl, ?_⟩; simp only [zn]; refine zy 1 ?_; refine wpList_nil ?_; go_upto_region 2 with fail
  refine wp_region_lit ?_; refine zy 1 ?_; refine wpList_nil ?_; go_wp2; go_ret; exact ⟨_, _, rfl, qE.nil _ _, B⟩
 | true =>
  have hL : xO s = L := by rw [← e]; unfold vD; rw [hv]; rfl
  have HL := Lib.hid hL; have HVS := Lib.hid ((jR s).1 hv); have HV := Lib.hid hv; obtain ⟨g, o, rfl, pc⟩ := rs.at (by have := HVS.out.l1; omega)
  have hw0 := Nat.le_refl w.heap.size; clear hv e hL; go_enter Tryz.func19, Tryz.ntmps19
  go_upto_region 0 with fail
  refine wp_region_lit ?_
  (refine zt (t := 30) rfl _ rfl _ rfl (z6 B ?_); clear B; intro b_r1 wn zb zd r1 za zf zk B; (try have zh := r1.lt); (try replace r1 := r1.below (za.mono zb)); (try have zh := rs.lt); (try replace rs := rs.below (za.mono zb)); (try have zh := pc.lt); (try replace pc := pc.below (za.mono zb)); simp only [zn])
  refine zy 1 ?_; refine wpList_nil ?_; go_upto_region 1 with fail
  refine wp_region_lit ?_; refine zy 1 ?_
  refine qT (enters_of Tryz.func16 (by kernel_rfl) rfl) (c := xz _ s true _ rs hn HV.out) (h := ?_); rintro e wn ⟨rfl, za⟩; have zf := B.size; have zg := za.size; replace B := B.trans (za.mono B.size)
  (try replace r1 := r1.below za)
  (try replace pc := pc.below za)
  refine ⟨_, rfl, ?_⟩; simp only [zn]; refine zy 1 ?_; refine wpList_nil ?_; go_upto_region 3 with fail
  refine wp_region_lit ?_; refine zy 1 ?_
  refine qT (enters_of Tryz.func58 (by kernel_rfl) rfl) (c := zbi _ s _) (h := ?_); rintro e wn ⟨bw, rfl, hbw, r9, za⟩; have zf := B.size; have zg := za.size; replace B := B.trans (za.mono B.size)
  (try replace pc := pc.below za)
  (try replace r9 := r9.below za)
  refine ⟨_, rfl, ?_⟩; simp only [zn]; refine qT (enters_of Tryz.func57 (by kernel_rfl) rfl) (c := XO s HVS.out g o c bw _ r9 hc pc) (h := ?_); rintro e wn ⟨a5, c5, rfl, od5, za⟩; have zf := B.size; have zg := za.size; replace B := B.trans (za.mono B.size); replace od5 := od5.mono (show w.heap.size ≤ _ from by omega); refine ⟨_, rfl, ?_⟩; simp only [zn]; refine zy 1 ?_; refine wpList_nil ?_; rw [HL.out] at *; go_wp2; go_ret; exact ⟨_, _, rfl, od5, B⟩
/-! ### The variable 'limits' -/
def xG (w : World) : Prop := 0 < w.heap.size ∧ ∀ j, j < 4 → w.cell? ⟨0, j, none⟩ = (j4 Xe)[j]?
section
variable {w w' : World}
theorem xG.lt (h : xG w) : 0 < w.heap.size := h.1
theorem xG.of_eq (h : xG w) (e : w'.heap[0]? = w.heap[0]?) : xG w' := by
 refine ⟨?_, fun j hj => ?_⟩
 ·have := h.1
  rcases Nat.lt_or_ge 0 w'.heap.size with k | k
  ·exact k
  ·rw [Array.getElem?_eq_none k, Array.getElem?_eq_getElem this] at e
   cases e
 ·rw [World.cell?_of_block (w := w) e]
  exact h.2 j hj
theorem xG.below (h : xG w) (hb : Below w.heap.size w w') : xG w' := h.of_eq (hb.block _ h.lt)
theorem zca (h : xG w) : ∀ w', (∃ u, w' = ov w u) → xG w' := by
 rintro w' ⟨u, rfl⟩
 exact h.below (qN w u)
theorem uY (h : xG w) : (Instr.loadAt 38 (.pointer (some ⟨0, 0, none⟩))).run Tryz.prog w = .ok (.agg (j4 Xe)) w :=
 xt Tryz.isAgg38 (by kernel_rfl) (fun j hj => by rw [Nat.zero_add]; exact h.2 j hj)
end
theorem WF (l : List Db) {k : Nat} {d : Db} (h : l[k]? = some d) : Qi (l.take (k + 1)) = if 0 < d.r then xF (Qi (l.take k)) (vt d) else Qi (l.take k) := by
 unfold Qi
 rw [List.take_add_one, h, List.foldl_append]
 rfl
set_option maxHeartbeats 4000000 in
theorem zaK (v : Value) (s : qS) (q : Rc) (w : World) (lm : xG w) (rs : j9 qQ v s.pts w) (hn : s.pts.length ≤ 17592186044416) (e : zeu s = q) : Calls Tryz.prog 21 #[.agg (qR v s)] w fun e w' => e = .returned (.agg (j4 q)) ∧ Below w.heap.size w w' := by
 have B := Below.refl w.heap.size w
 have hlm := lm.lt
 have HL := Lib.hid (WK s)
 have HOK := Lib.hid (zbz s)
 obtain ⟨L, hL⟩ : ∃ L, vD s = L := ⟨_, rfl⟩
 have HE := Lib.hid (show vm (Qi L) Xe = q from by rw [← e, ← hL]; rfl)
 have HLS := Lib.hid hL
 rw [hL] at HL HOK
 have hLn := HL.out
 clear e hL
 go_enter Tryz.func21, Tryz.ntmps21
 go_upto_region 0 with fail
 refine wp_region_lit ?_
 (refine zt (t := 30) rfl _ rfl _ rfl (z6 B ?_); clear B; intro b_r1 wn zb zd r1 za zf zk B; (try have zh := lm.lt); (try replace lm := lm.below (za.mono zb)); (try have zh := rs.lt); (try replace rs := rs.below (za.mono zb)); simp only [zn])
 (refine zu (t := 38) rfl _ (zZ _ _ rfl) (z6 B ?_); clear B; intro b_r2 wn zb zd r2 za zf zk B; (try have zh := r1.lt); (try replace r1 := r1.below (za.mono zb)); (try have zh := lm.lt); (try replace lm := lm.below (za.mono zb)); (try have zh := rs.lt); (try replace rs := rs.below (za.mono zb)); simp only [zn])
 refine wpList_nil ?_
 go_upto_region 1 with fail
 refine wp_region_lit ?_
 (refine zu (t := 38) rfl _ (zZ _ _ rfl) (z6 B ?_); clear B; intro b_r3 wn zb zd r3 za zf zk B; (try have zh := r1.lt); (try replace r1 := r1.below (za.mono zb)); (try have zh := r2.lt); (try replace r2 := r2.below (za.mono zb)); (try have zh := lm.lt); (try replace lm := lm.below (za.mono zb)); (try have zh := rs.lt); (try replace rs := rs.below (za.mono zb)); simp only [zn])
 refine wpList_nil ?_
 have k1 : b_r2 < b_r3 := by have := r2.lt; omega
 have k2 : w.heap.size ≤ b_r2 := by omega
 obtain ⟨b0, hb0⟩ : ∃ b0, b0 = wn.heap.size := ⟨_, rfl⟩
 have k3 : b_r3 < b0 := by have := r3.lt; omega
 have HB0 := Lib.hid hb0
 clear hb0
 go_upto_region 2 with fail
 refine wp_region_lit ?_
 refine zy 1 ?_
 refine qT (enters_of Tryz.func19 (by kernel_rfl) rfl) (c := Z9 _ s L _ rs hn HLS.out) (h := ?_)
 rintro e wn ⟨ad, cd, rfl, od, za⟩
 have zf := B.size
 have zg := za.size
 replace B := B.trans (za.mono B.size)
 (try replace r1 := r1.below za)
 (try replace r2 := r2.below za)
 (try replace r3 := r3.below za)
 (try replace lm := lm.below za)
 (try replace rs := rs.below za)
 rw [← HB0.out] at od
 refine ⟨_, rfl, ?_⟩
 simp only [zn]
 refine zw (by first | rfl | simp [Region.wanted, yielded]) rfl Tryz.underlying35 rfl ?_
 simp only [zn]
 refine zy 1 ?_
 refine wpList_nil ?_
 have k4 : b0 ≤ wn.heap.size := by have := HB0.out; omega
 clear rs r1
 go_wp2
 go_loopw [5, 9] (fun _ iv wr => ∃ (k : Nat) (A : Rc), k ≤ L.length ∧ iv = .int .i64 (k : Int) ∧ Hid (Qi (L.take k) = A) ∧ Below w.heap.size w wr ∧ b0 ≤ wr.heap.size ∧ xG wr ∧ zJ 38 wr b_r2 #[.int .i64 0, .int .i64 0, .int .i64 0, .int .i64 0] ∧ zJ 38 wr b_r3 (j4 A) ∧ qE vj b0 (.slice ad L.length cd) L wr) (fun _ iv _ => (L.length - intOf iv).toNat)
 case atStart => exact ⟨0, Rc.zero, by omega, rfl, Lib.hid rfl, B, k4, lm, r2, r3, od⟩
 case round =>
  clear B k4 lm r2 r3 od; obtain ⟨k, A, hk, rfl, HA, B, k4, lm, r2, r3, od⟩ := hrel; by_cases hkl : k < L.length
  ·have q1 : decide ((k : Int) < (L.length : Int)) = true := decide_eq_true (by omega)
   have q2 : decide (k < L.length) = true := decide_eq_true hkl; obtain ⟨g, o, rfl, pc⟩ := od.rs.at (by omega); have hp := Qn hkl; have OKD := Lib.hid (HOK.out _ (List.mem_of_getElem? hp)); have HST := Lib.hid (WF L hp); rw [HA.out] at HST
   generalize hx1 : zbv L k = x1 at *
   clear hx1; obtain ⟨o1, o2, o3, o4, o5, o6⟩ := OKD.out; go_upto_region 3 with fail
   refine wp_region_lit ?_; refine zy 1 ?_; refine wpList_nil ?_; have BW := B; have HOD := Lib.hid od; have hlo := od.rs; have B := Below.refl wr.heap.size wr; have hpcl := pc.lt; have hr2l := r2.lt; have hr3l := r3.lt; have hlml := lm.lt; clear hlo; go_upto_region 4 with fail
   refine wp_region_lit ?_; refine jp 2 ?_; repeat (first | go_big_quiet_skip | (go_big_quiet_want; first | ((first | refine zo (t := 45) rfl _ _ _ rfl (fun w hw => (jb pc w hw).load Tryz.isAgg45 hp) (by first | rfl | omega) ?_ | refine qB ?_ | refine qC ?_); simp only [zn]; go_big_quiet_on) | (go_big_quiet_op; go_big_quiet_on)))
   refine wpQuiet_nil ?_
   (refine zu (t := 45) rfl _ (yX _ _ rfl) (z6 B ?_); clear B; intro b_d5 wn zb zd d5 za zf zk B; (try have zh := r2.lt); (try replace r2 := r2.below (za.mono zb)); (try have zh := r3.lt); (try replace r3 := r3.below (za.mono zb)); (try have zh := lm.lt); (try replace lm := lm.below (za.mono zb)); (try have zh := pc.lt); simp only [zn])
   (refine zq (t := 45) rfl _ _ rfl _ rfl _ rfl d5 (by kernel_rfl) rfl (by simp [j4, vj, Value.oneCell']) (qG B (by omega) ?_); clear d5 B; intro wn d5 ze zf zg B; (try replace r2 := r2.of_eq (ze.block _ r2.lt (by omega))); (try replace r3 := r3.of_eq (ze.block _ r3.lt (by omega))); (try replace lm := lm.of_eq (ze.block _ lm.lt (by omega))); simp only [zn])
   refine wpList_nil ?_; replace d5 : zJ 45 _ b_d5 (vj.enc x1) := d5; replace od := HOD.out.below B; have B0 := BW.trans (B.mono BW.size); clear B; have B := B0; clear B0 BW; have k5 : b0 ≤ wn.heap.size := by omega
   by_cases hr : 0 < x1.r
   ·have q3 : decide (0 < x1.r) = true := decide_eq_true hr
    rw [if_pos hr] at HST; obtain ⟨qs, hqs⟩ : ∃ q, vt x1 = q := ⟨_, rfl⟩; obtain ⟨A2, hA2⟩ : ∃ q, xF A qs = q := ⟨_, rfl⟩; rw [hqs, hA2] at HST; have HQS := Lib.hid hqs; have HA2 := Lib.hid hA2; clear hqs hA2; go_upto_region 5 with fail
    refine wp_region_lit ?_; refine zy 3 ?_
    refine wpList_nil ?_; go_upto_region 6 with fail
    try have lx_r1 := r1.lt
    try have lx_r2 := r2.lt
    try have lx_r3 := r3.lt
    try have lx_lm := lm.lt
    try have lx_d5 := d5.lt
    try have lx_od := od.lt
    refine zF 4 [(2, zE ?v1_2), (3, zE ?v1_3)] (by kernel_rfl) (by kernel_rfl) (by kernel_rfl) ?_
    rotate_left 2
    simp only [jK, Nat.reduceAdd]; refine vT 2 ?_
    refine zz (by rfl) (by first | rfl | simp [Region.wanted, yielded]) ?_ ?_
    ·intro wn za hE Kx hKx
     have zf := B.size; have zg := za.size; replace B := B.trans (za.mono B.size)
     (try replace r2 := r2.below za)
     (try replace r3 := r3.below za)
     (try replace lm := lm.below za)
     (try replace d5 := d5.below za)
     (try replace od := od.below za)
     refine zG rfl (enters_of Tryz.func62 (by kernel_rfl) rfl) (by simp only [Act.eval, qo]; rfl) ?_
     refine (yG x1 qs wn (by omega) (by omega) (by omega) HQS.out).mono ?_; rintro e wm ⟨rfl, zl⟩; refine ⟨_, rfl, ?_⟩; have hz := hKx () wm trivial zl
     dsimp only [zE] at hz
     exact hz
    rintro ⟨⟩
    dsimp only [zE]
    simp only [zn]; refine zz (by rfl) (by first | rfl | simp [Region.wanted, yielded]) ?_ ?_
    ·intro wn za hE Kx hKx
     have zf := B.size; have zg := za.size; replace B := B.trans (za.mono B.size)
     (try replace r2 := r2.below za)
     (try replace r3 := r3.below za)
     (try replace lm := lm.below za)
     (try replace d5 := d5.below za)
     (try replace od := od.below za)
     refine zG rfl (enters_of Tryz.func61 (by kernel_rfl) rfl) (by simp only [Act.eval, qo]; rfl) ?_
     refine (za6 A qs A2 wn HA2.out).mono ?_; rintro e wm ⟨rfl, zl⟩; refine ⟨_, rfl, ?_⟩; have hz := hKx () wm trivial zl
     dsimp only [zE] at hz
     exact hz
    rintro ⟨⟩
    dsimp only [zE]
    simp only [zn]; refine zY ?_; intro wn za hE; have zf := B.size; have zg := za.size; replace B := B.trans (za.mono B.size)
    (try replace r2 := r2.below za)
    (try replace r3 := r3.below za)
    (try replace lm := lm.below za)
    (try replace d5 := d5.below za)
    (try replace od := od.below za)
    clear hE; try simp only [List.drop_succ_cons, List.drop_zero]
    go_wp2_with (first | (refine zq (t := 38) rfl _ _ rfl _ rfl _ rfl r3 (by kernel_rfl) rfl (by simp [j4, vj, Value.oneCell']) (qG B (by omega) ?_); clear r3 B; intro wn r3 ze zf zg B; replace od := od.chg ze (by omega); (try replace r2 := r2.of_eq (ze.block _ r2.lt (by omega))); (try replace lm := lm.of_eq (ze.block _ lm.lt (by omega))); simp only [zn]) | fail)
    refine zN.normal ?_; replace r3 : zJ 38 _ b_r3 (j4 A2) := r3; go_upto_region 7 with fail
    refine wp_region_lit ?_; refine zy 2 ?_; refine wpList_nil ?_; go_wp2; go_roundw
    case rel => exact ⟨k + 1, A2, by omega, by go_num, HST, B, by omega, lm, r2, r3, od⟩
    case measure => simp [intOf]; omega
   ·have q3 : decide (0 < x1.r) = false := decide_eq_false hr
    rw [if_neg hr] at HST; go_upto_region 5 with fail
    refine wp_region_lit ?_; refine zy 3 ?_
    refine wpList_nil ?_; go_upto_region 7 with fail
    refine wp_region_lit ?_; refine zy 2 ?_; refine wpList_nil ?_; go_wp2; go_roundw
    case rel => exact ⟨k + 1, A, by omega, by go_num, HST, B, k5, lm, r2, r3, od⟩
    case measure => simp [intOf]; omega
  ·have q1 : decide ((k : Int) < (L.length : Int)) = false := decide_eq_false (by omega)
   have q2 : decide (k < L.length) = false := decide_eq_false hkl; have HF := Lib.hid (show vm A Xe = q from by rw [← HE.out, ← HA.out, List.take_of_length_le (by omega)]); go_upto_region 3 with fail
   refine wp_region_lit ?_; refine zy 1 ?_; refine wpList_nil ?_; go_upto_region 8 with fail
   refine wp_region_lit ?_; refine jp 2 ?_
   repeat (first | go_big_quiet_skip | (go_big_quiet_want; first | ((first | refine zo (t := 38) rfl _ _ _ rfl (fun w hw => uY (zca lm w hw)) (by first | rfl | omega) ?_ | refine qB ?_ | refine qC ?_); simp only [zn]; go_big_quiet_on) | (go_big_quiet_op; go_big_quiet_on)))
   refine wpQuiet_nil ?_; refine qT (enters_of Tryz.func46 (by kernel_rfl) rfl) (c := XS A Xe q _ HF.out) (h := ?_); rintro e wn ⟨rfl, za⟩; have zf := B.size; have zg := za.size; replace B := B.trans (za.mono B.size)
   (try replace r2 := r2.below za)
   refine ⟨_, rfl, ?_⟩; simp only [zn]
   (refine zq (t := 38) rfl _ _ rfl _ rfl _ rfl r2 (by kernel_rfl) rfl (by simp [j4, vj, Value.oneCell']) (qG B (by omega) ?_); clear r2 B; intro wn r2 ze zf zg B; simp only [zn])
   refine wpList_nil ?_; first | (refine bodyPost_ret (zv (t := 38) rfl _ _ (b_r2) rfl r2 Tryz.isAgg38 (by kernel_rfl)) rfl ?_) | (go_step; refine bodyPost_ret (zv (t := 38) rfl _ _ (b_r2) rfl r2 Tryz.isAgg38 (by kernel_rfl)) rfl ?_) | (go_step; go_step; refine bodyPost_ret (zv (t := 38) rfl _ _ (b_r2) rfl r2 Tryz.isAgg38 (by kernel_rfl)) rfl ?_) | (go_step; go_step; go_step; refine bodyPost_ret (zv (t := 38) rfl _ _ (b_r2) rfl r2 Tryz.isAgg38 (by kernel_rfl)) rfl ?_) | (go_step; go_step; go_step; go_step; refine bodyPost_ret (zv (t := 38) rfl _ _ (b_r2) rfl r2 Tryz.isAgg38 (by kernel_rfl)) rfl ?_) | (go_step; go_step; go_step; go_step; go_step; refine bodyPost_ret (zv (t := 38) rfl _ _ (b_r2) rfl r2 Tryz.isAgg38 (by kernel_rfl)) rfl ?_)
   exact ⟨rfl, B⟩
/- Contracts of the reference's Dabs, Area. -/
theorem YS (w : World) (o : Oper) (ho : o.op = .buildSlice 26 0 #[]) (ev : Operand → Value) : (execOp ev o).run Tryz.prog w = .ok (.value (.slice (some ⟨w.heap.size, 0, none⟩) 0 0)) (w.alloc (.cells #[] 43)) := by
 obtain ⟨d, p, t, ps, af, gd⟩ := o
 simp only at ho
 subst ho
 kernel_rfl
/-- A slice of nothing, in memory of the call's own. -/
theorem QY {ops : Array Oper} {rest : List Oper} {o : Oper} {a : Act} {w : World} {Q : Exit → Act → World → Prop} (hg : o.guard = none) (ho : o.op = .buildSlice 26 0 #[])
  (h : ∀ b w', w.heap.size ≤ b → b ≤ w.heap.size → qE qQ b (.slice (some ⟨b, 0, none⟩) 0 0) [] w' → Below b w w' → w'.heap.size = b + 1 → wpList Tryz.prog ops Q rest (a.put o.dst (.slice (some ⟨b, 0, none⟩) 0 0)) w') : wpList Tryz.prog ops Q (o :: rest) a w :=
 wpList_plain hg fun K hK => by
  unfold Oper.wp; rw [YS w o ho]; exact hK _ _ (h _ _ (Nat.le_refl _) (Nat.le_refl _) ⟨rfl, .inr ⟨w.heap.size, 0, #[], rfl, Nat.le_refl _, by rw [zL, if_pos rfl], Nat.le_refl _, by unfold maxLen; omega, rfl, rfl⟩⟩ ((Below.refl _ _).alloc (Nat.le_refl _) _) (World.size_alloc _ _))
def zhh (s : qS) (k : Nat) : List Db := (List.range k).map (xg s)
/- Contracts of Clone at points; of Split of package stroke. -/
set_option maxHeartbeats 1000000 in
theorem XN (v : Value) (l : List Sp) (w : World) (h : j9 qQ v l w) (hn : l.length ≤ 100000) : Calls Tryz.prog 69 #[v] w fun e w' => ∃ a c, e = .returned (.slice a l.length c) ∧ qE qQ w.heap.size (.slice a l.length c) l w' ∧ Below w.heap.size w w' := by
 have B := Below.refl w.heap.size w
 have q26 : ∀ (w : World) (a : Option Addr) (n c n' c' : Nat), (binOp .eql 26 (.slice a n c) (.slice none n' c')).run Tryz.prog w = .ok (.bool a.isNone) w := fun w a n c n' c' => Lib.run_eql_slice_nil w _ _ a n c n' c' Tryz.underlying26
 obtain ⟨a, c, rfl, hc⟩ := h.len
 have HS := Lib.hid h
 cases a with
 | none =>
  have hl0 : l = [] := by
   rcases h with ⟨_, h⟩ | ⟨g, o, c', e, _⟩ | ⟨_, _, e, h⟩
   ·exact h
   ·injection e with e1; cases e1
   ·exact h
  subst hl0; clear h HS; go_enter Tryz.func69, Tryz.ntmps69
  go_wp2; go_ret; exact ⟨_, _, rfl, qE.nil _ _, B⟩
 | some ad =>
  go_enter Tryz.func69, Tryz.ntmps69
  go_wp2_with (first | (at_builtin; refine yp rfl _ _ rfl _ _ rfl rfl od (h) (by simp only [List.length_append, List.length_cons, List.length_nil]; omega) (by omega) ?_; intro v_od wn ht za; have zf := B.size; have hbz := za.size; replace B := B.trans (za.mono (by omega)); clear od; have od := ht; clear ht; obtain ⟨a_od, c_od, hv, hco⟩ := od.len; (try simp only [List.length_append, List.length_cons, List.length_nil, Nat.zero_add] at hv hco); subst hv; simp only [zn]) | (refine QY rfl rfl (z6 B ?_); clear B; intro b_od wn zb zd od za zf zk B; replace h := h.below (za.mono (by omega)); simp only [zn]) | fail)
  go_ret; exact ⟨_, _, rfl, by rw [List.nil_append] at od; exact od.mono (by omega), B⟩
/-- Two blocks and a slot for results. -/
theorem jx {t u : TypeId} {fn : Func} {p r q : Tmp} (h : fn.results = #[.cell p t, .cell r u, .tmp q]) (tmps : Array Value) (w : World) (b c : Nat) (hp : tmps.getD p undef = .pointer (some ⟨b, 0, none⟩)) (hr : tmps.getD r undef = .pointer (some ⟨c, 0, none⟩)) {cs ds : Array Value} (v : Value) (hq : tmps.getD q undef = v) (ht : zJ t w b cs) (hu : zJ u w c ds) (hagg : ∀ w : World, (isAgg t).run Tryz.prog w = .ok true w) (zf : (Tryz.prog.info? t).map (·.size) = some cs.size) (hagg2 : ∀ w : World, (isAgg u).run Tryz.prog w = .ok true w) (hsz2 : (Tryz.prog.info? u).map (·.size) = some ds.size) :
  (results fn tmps).run Tryz.prog w = .ok (.tuple #[.agg cs, .agg ds, v]) w := by
 have hl := zA ht hagg zf
 have hl2 := zA hu hagg2 hsz2
 simp only [Instr.loadAt, Instr.sureAddr, Sem.run_bind, Sem.run_pure, Result.andThen_ok] at hl hl2
 unfold results
 rw [h]
 have hp' : tmps[p]?.getD undef = .pointer (some ⟨b, 0, none⟩) := by simpa using hp
 have hr' : tmps[r]?.getD undef = .pointer (some ⟨c, 0, none⟩) := by simpa using hr
 have hq' : tmps[q]?.getD undef = v := by simpa using hq
 simp [hp', hr', hq', Instr.sureAddr, asAddr, hl, hl2, Sem.run_bind, Sem.run_pure, Result.andThen_ok]
theorem zO.taken {α : Type} {k : Nat} {T ST : TypeId} {E : Q3 α k T ST} {g o : Nat} {ls : List α} {w : World} (h : zO E g o ls w) {n c : Nat} (hn : n ≤ ls.length) (hc : n ≤ c) : j9 E (.slice (some ⟨g, o, none⟩) n c) (ls.take n) w :=
 .inr (.inl ⟨g, o, c, by rw [List.length_take, Nat.min_eq_left hn], by rw [List.length_take]; omega, fun _ => h.take n⟩)
theorem zO.dropped {α : Type} {k : Nat} {T ST : TypeId} {E : Q3 α k T ST} {g o : Nat} {ls : List α} {w : World} (h : zO E g o ls w) {n m c : Nat} (hm : m = ls.length - n) (hc : m ≤ c) : j9 E (.slice (some ⟨g, o + n * k, none⟩) m c) (ls.drop n) w :=
 .inr (.inl ⟨g, o + n * k, c, by rw [List.length_drop, hm], by rw [List.length_drop]; omega, fun _ => h.drop n⟩)
theorem jj {c : Prop} [Decidable c] {p q : Prop} (h : c) (hp : p) : if c then p else q := by rw [if_pos h]; exact hp
theorem zJ.drewN {t : TypeId} {w : World} {b : Nat} {cs : Array Value} (h : zJ t w b cs) : zJ t w.drew b cs := h
section
variable {o : Oper} {a : Act} {w : World} {Q : Exit → Act → World → Prop} {K : Act → World → Prop}
theorem xe {t : TypeId} {cs : Array Value} (x : Operand) (b : Nat) (ho : o.op = .load t x) (hx : a.eval x = .pointer (some ⟨b, 0, none⟩)) (ht : zJ t w b cs) (hagg : ∀ w : World, (isAgg t).run Tryz.prog w = .ok true w) (zf : (Tryz.prog.info? t).map (·.size) = some cs.size)
  (h : K (a.put o.dst (.agg cs)) w) : o.wp Tryz.prog a w K Q := by
 unfold Oper.wp execOp
 simp only [ho, hx, zA ht hagg zf, Sem.run_bind, Sem.run_pure, Result.andThen_ok]
 exact h
theorem wL (v : Value) (hrun : (execOp a.eval o).run Tryz.prog w = .ok (.value v) w) (h : K (a.put o.dst v) w) : o.wp Tryz.prog a w K Q := by
 unfold Oper.wp
 rw [hrun]
 exact h
end
set_option maxHeartbeats 8000000 in
/-- Split, done. -/
theorem Kq (v : Value) (s : qS) (k : Nat) (w : World) (rs : j9 qQ v s.pts w) (hv : ju s = true) (h1 : 1 ≤ k) (h2 : k + 2 ≤ s.pts.length) : Calls Tryz.prog 26 #[.agg (qR v s), .int .i64 (k : Int)] w fun e w' => ∃ va vb, e = .returned (.tuple #[.agg (qR va (spA s k)), .agg (qR vb (spB s k)), .int .i64 0]) ∧ qE qQ w.heap.size va (spA s k).pts w' ∧ qE qQ w.heap.size vb (spB s k).pts w' ∧ Below w.heap.size w w' := by
 have B := Below.refl w.heap.size w
 obtain ⟨a, c, rfl, hc⟩ := rs.len
 have HV := Lib.hid hv
 have HVS := Lib.hid ((jR s).1 hv)
 have hl2 := HVS.out.l2
 have hn : s.pts.length ≤ 17592186044416 := by omega
 obtain ⟨g, o, rfl, pc0⟩ := rs.at (by omega)
 have HPC := Lib.hid pc0
 have hg := pc0.lt
 have q1 : decide ((k : Int) < 1) = false := decide_eq_false (by omega)
 have q2 : decide ((s.pts.length : Int) - 2 < (k : Int)) = false := decide_eq_false (by omega)
 clear hv pc0
 go_enter Tryz.func26, Tryz.ntmps26
 go_upto_region 0 with fail
 refine wp_region_lit ?_
 (refine zt (t := 30) rfl _ rfl _ rfl (z6 B ?_); clear B; intro b_r2 wn zb zd r2 za zf zk B; (try have zh := rs.lt); (try replace rs := rs.below (za.mono zb)); simp only [zn])
 (refine zu (t := 30) rfl _ (zW _ _ rfl) (z6 B ?_); clear B; intro b_r4 wn zb zd r4 za zf zk B; (try have zh := r2.lt); (try replace r2 := r2.below (za.mono zb)); (try have zh := rs.lt); (try replace rs := rs.below (za.mono zb)); simp only [zn])
 (refine zu (t := 30) rfl _ (zW _ _ rfl) (z6 B ?_); clear B; intro b_r5 wn zb zd r5 za zf zk B; (try have zh := r2.lt); (try replace r2 := r2.below (za.mono zb)); (try have zh := r4.lt); (try replace r4 := r4.below (za.mono zb)); (try have zh := rs.lt); (try replace rs := rs.below (za.mono zb)); simp only [zn])
 refine zy 1 ?_
 refine wpList_nil ?_
 have k1 : w.heap.size ≤ b_r2 := by omega
 have k2 : b_r2 < b_r4 := by have := r2.lt; omega
 have k3 : b_r4 < b_r5 := by have := r4.lt; omega
 go_upto_region 1 with fail
 refine wp_region_lit ?_
 refine zy 1 ?_
 refine qT (enters_of Tryz.func16 (by kernel_rfl) rfl) (c := xz _ s true _ rs hn HV.out) (h := ?_)
 rintro e wn ⟨rfl, za⟩
 have zf := B.size
 have zg := za.size
 replace B := B.trans (za.mono B.size)
 (try replace r2 := r2.below za)
 (try replace r4 := r4.below za)
 (try replace r5 := r5.below za)
 refine ⟨_, rfl, ?_⟩
 simp only [zn]
 refine zy 9 ?_
 refine zw (by first | rfl | simp [Region.wanted, yielded]) rfl Tryz.underlying26 rfl ?_
 simp only [zn]
 refine zy 3 ?_
 refine wpList_nil ?_
 go_upto_region 3 with fail
 go_cut [7, 8] from 24 to 28 (fun s7 s8 wx => ∃ b_r7 b_r8, s7 = .pointer (some ⟨b_r7, 0, none⟩) ∧ s8 = .pointer (some ⟨b_r8, 0, none⟩) ∧ Below w.heap.size w wx ∧ b_r5 < b_r7 ∧ b_r5 < b_r8 ∧ b_r7 ≠ b_r8 ∧ zJ 30 wx b_r2 (qR (.slice (some ⟨g, o, none⟩) s.pts.length c) s) ∧ zJ 30 wx b_r4 #[.slice none 0 0, .int .i64 0, .int .i64 0, .int .u8 0, .int .u8 0, .int .u8 0, .int .u8 0, .bool false, .int .i64 0] ∧ zJ 30 wx b_r5 #[.slice none 0 0, .int .i64 0, .int .i64 0, .int .u8 0, .int .u8 0, .int .u8 0, .int .u8 0, .bool false, .int .i64 0] ∧ zJ 30 wx b_r7 (qR (.slice (some ⟨g, o, none⟩) s.pts.length c) s) ∧ zJ 30 wx b_r8 (qR (.slice (some ⟨g, o, none⟩) s.pts.length c) s))
 case first =>
  have hr5 := r5.lt; have r2B := r2; clear rs; refine vA 6 #[false, false, false, false, false, false] (by kernel_rfl) (by kernel_rfl) ?_; intro wn za; have hX := za; have zf := B.size; have zg := za.size; replace B := B.trans (za.mono B.size); try replace r2 := r2.below za
  try replace r4 := r4.below za
  try replace r5 := r5.below za
  simp only [List.length_cons, List.length_nil, Nat.reduceAdd]; refine qW 0 rfl (by kernel_rfl) ⟨_, zU hX⟩ ?_; intro K hK; try simp only [zP]
  (first | (refine zo (t := 30) rfl _ _ _ rfl (fun w hw => zA (zD r2B w hw) Tryz.isAgg30 (by kernel_rfl)) (by rfl) ?_; simp only [zn]; go_big_quiet_on) | (go_big_quiet_op; go_big_quiet_on))
  simp only [zn]; refine qW 1 rfl (by kernel_rfl) ⟨_, zU hX⟩ ?_; intro K hK; try simp only [zP]
  (first | (refine zo (t := 30) rfl _ _ _ rfl (fun w hw => zA (zD r2B w hw) Tryz.isAgg30 (by kernel_rfl)) (by rfl) ?_; simp only [zn]; go_big_quiet_on) | (go_big_quiet_op; go_big_quiet_on))
  simp only [zn]; refine xH 2 3 rfl rfl (by kernel_rfl) rfl rfl (fun K hK => ?_) (fun K hK => ?_)
  ·skip
   refine zR (t := 30) _ (zW _ _ rfl) ?_; intro b_r7 wn zb zd ht za zg; have zf := B.size; have hsx := hX.size; replace B := B.trans (za.mono (by omega)); replace hX := hX.trans (za.mono (by omega)); try replace r2 := r2.below (za.mono zb)
   try replace r4 := r4.below (za.mono zb)
   try replace r5 := r5.below (za.mono zb)
   try replace r7 := r7.below (za.mono zb)
   try replace r8 := r8.below (za.mono zb)
   have r7 := ht; clear ht; refine hK _ _ ⟨fun _ => ⟨_, zU hX⟩, ?_⟩; clear hK K; simp only [zn]; refine qq 3 rfl (by kernel_rfl) rfl (fun K hK => ?_); refine zR (t := 30) _ (zW _ _ rfl) ?_; intro b_r8 wn zb zd ht za zg; have zf := B.size; have hsx := hX.size; replace B := B.trans (za.mono (by omega)); replace hX := hX.trans (za.mono (by omega)); try replace r2 := r2.below (za.mono zb)
   try replace r4 := r4.below (za.mono zb)
   try replace r5 := r5.below (za.mono zb)
   try replace r7 := r7.below (za.mono zb)
   try replace r8 := r8.below (za.mono zb)
   have r8 := ht; clear ht; refine hK _ _ ⟨fun _ => ⟨_, zU hX⟩, ?_⟩; clear hK K; simp only [zn]; refine qq 4 rfl (by kernel_rfl) rfl (fun K hK => ?_); refine qX (t := 30) _ _ _ _ rfl rfl rfl r7 (by kernel_rfl) rfl (by simp [qR, Value.oneCell']) ?_; clear r7; intro wn r7 ze zg; have zf := B.size; have hsx := hX.size; replace zg := Nat.le_of_eq zg.symm; replace B := qV.below B ze (by omega) B.size; replace hX := qV.below hX ze (by omega) hX.size; replace r2 := r2.of_eq (ze.block _ r2.lt (by omega)); replace r4 := r4.of_eq (ze.block _ r4.lt (by omega)); replace r5 := r5.of_eq (ze.block _ r5.lt (by omega)); replace r8 := r8.of_eq (ze.block _ r8.lt (by omega)); refine hK _ _ ⟨fun _ => ⟨_, zU hX⟩, ?_⟩; clear hK K; simp only [zn]
   refine qq 5 rfl (by kernel_rfl) rfl (fun K hK => ?_); refine qX (t := 30) _ _ _ _ rfl rfl rfl r8 (by kernel_rfl) rfl (by simp [qR, Value.oneCell']) ?_; clear r8; intro wn r8 ze zg; have zf := B.size; have hsx := hX.size; replace zg := Nat.le_of_eq zg.symm; replace B := qV.below B ze (by omega) B.size; replace hX := qV.below hX ze (by omega) hX.size; replace r2 := r2.of_eq (ze.block _ r2.lt (by omega)); replace r4 := r4.of_eq (ze.block _ r4.lt (by omega)); replace r5 := r5.of_eq (ze.block _ r5.lt (by omega)); replace r7 := r7.of_eq (ze.block _ r7.lt (by omega)); refine hK _ _ ⟨fun _ => ⟨_, zU hX⟩, ?_⟩; clear hK K; simp only [zn]; refine js (by kernel_rfl) (by kernel_rfl) ?_; simp only [List.drop_succ_cons, List.drop_zero]; refine wpList_nil ?_; refine zN.normal ?_; go_wp2_with fail
   go_meet; exact ⟨b_r7, b_r8, rfl, rfl, B, by omega, by omega, by omega, r2, r4, r5, r7, r8⟩
  ·skip
   refine zR (t := 30) _ (zW _ _ rfl) ?_; intro b_r8 wn zb zd ht za zg; have zf := B.size; have hsx := hX.size; replace B := B.trans (za.mono (by omega)); replace hX := hX.trans (za.mono (by omega)); try replace r2 := r2.below (za.mono zb)
   try replace r4 := r4.below (za.mono zb)
   try replace r5 := r5.below (za.mono zb)
   try replace r7 := r7.below (za.mono zb)
   try replace r8 := r8.below (za.mono zb)
   have r8 := ht; clear ht; refine hK _ _ ⟨fun _ => ⟨_, zU hX⟩, ?_⟩; clear hK K; simp only [zn]; refine qq 2 rfl (by kernel_rfl) rfl (fun K hK => ?_); refine zR (t := 30) _ (zW _ _ rfl) ?_; intro b_r7 wn zb zd ht za zg; have zf := B.size; have hsx := hX.size; replace B := B.trans (za.mono (by omega)); replace hX := hX.trans (za.mono (by omega)); try replace r2 := r2.below (za.mono zb)
   try replace r4 := r4.below (za.mono zb)
   try replace r5 := r5.below (za.mono zb)
   try replace r7 := r7.below (za.mono zb)
   try replace r8 := r8.below (za.mono zb)
   have r7 := ht; clear ht; refine hK _ _ ⟨fun _ => ⟨_, zU hX⟩, ?_⟩; clear hK K; simp only [zn]; refine qq 4 rfl (by kernel_rfl) rfl (fun K hK => ?_); refine qX (t := 30) _ _ _ _ rfl rfl rfl r7 (by kernel_rfl) rfl (by simp [qR, Value.oneCell']) ?_; clear r7; intro wn r7 ze zg; have zf := B.size; have hsx := hX.size; replace zg := Nat.le_of_eq zg.symm; replace B := qV.below B ze (by omega) B.size; replace hX := qV.below hX ze (by omega) hX.size; replace r2 := r2.of_eq (ze.block _ r2.lt (by omega)); replace r4 := r4.of_eq (ze.block _ r4.lt (by omega)); replace r5 := r5.of_eq (ze.block _ r5.lt (by omega)); replace r8 := r8.of_eq (ze.block _ r8.lt (by omega)); refine hK _ _ ⟨fun _ => ⟨_, zU hX⟩, ?_⟩; clear hK K; simp only [zn]
   refine qq 5 rfl (by kernel_rfl) rfl (fun K hK => ?_); refine qX (t := 30) _ _ _ _ rfl rfl rfl r8 (by kernel_rfl) rfl (by simp [qR, Value.oneCell']) ?_; clear r8; intro wn r8 ze zg; have zf := B.size; have hsx := hX.size; replace zg := Nat.le_of_eq zg.symm; replace B := qV.below B ze (by omega) B.size; replace hX := qV.below hX ze (by omega) hX.size; replace r2 := r2.of_eq (ze.block _ r2.lt (by omega)); replace r4 := r4.of_eq (ze.block _ r4.lt (by omega)); replace r5 := r5.of_eq (ze.block _ r5.lt (by omega)); replace r7 := r7.of_eq (ze.block _ r7.lt (by omega)); refine hK _ _ ⟨fun _ => ⟨_, zU hX⟩, ?_⟩; clear hK K; simp only [zn]; refine js (by kernel_rfl) (by kernel_rfl) ?_; simp only [List.drop_succ_cons, List.drop_zero]; refine wpList_nil ?_; refine zN.normal ?_; go_wp2_with fail
   go_meet; exact ⟨b_r7, b_r8, rfl, rfl, B, by omega, by omega, by omega, r2, r4, r5, r7, r8⟩
 case rest =>
 clear B r2 r4 r5
 obtain ⟨b_r7, b_r8, rfl, rfl, B, k4, k5, k6, r2, r4, r5, r7, r8⟩ := hcut
 have pc := HPC.out.of_eq (B.block _ HPC.out.lt)
 have r7l := r7.lt
 have r8l := r8.lt
 clear rs
 obtain ⟨PA, hPA⟩ : ∃ l, s.pts.take (k + 1) = l := ⟨_, rfl⟩
 obtain ⟨PB, hPB⟩ : ∃ l, s.pts.drop k = l := ⟨_, rfl⟩
 have HLA := Lib.hid (show PA.length = k + 1 from by rw [← hPA, List.length_take]; omega)
 have HLB := Lib.hid (show PB.length = s.pts.length - k from by rw [← hPB, List.length_drop])
 have HPA := Lib.hid hPA
 have HPB := Lib.hid hPB
 have HOKA := Lib.hid (show ∀ a ∈ PA, Zv a from fun a ha => HVS.out.ok a (by rw [← hPA] at ha; exact List.mem_of_mem_take ha))
 obtain ⟨t, ht⟩ : ∃ t, xX PA = t := ⟨_, rfl⟩
 have HT := Lib.hid ht
 have htb : 0 ≤ t ∧ t ≤ 189812544 := by
  have h3 := HVS.out.pre (show k < s.pts.length by omega); have h4 := zcT (s := s) (at_ := k) (by omega); rw [hPA, ht] at h4; omega
 have HPH := Lib.hid (show zce s k = if s.pha - t < 0 then s.pha - t + (s.spa - 1 - (s.pha - t)) / s.spa * s.spa else s.pha - t from by unfold zce; rw [hPA, ht])
 have RA := Lib.hid (show ∀ W, zO qQ g o s.pts W → j9 qQ (.slice (some ⟨g, o, none⟩) (k + 1) c) PA W from fun W h => by rw [← hPA]; exact h.taken (by omega) (by omega))
 have RB := Lib.hid (show ∀ W, zO qQ g o s.pts W → j9 qQ (.slice (some ⟨g, o + k * 3, none⟩) (s.pts.length - k) (c - k)) PB W from fun W h => by rw [← hPB]; exact h.dropped rfl (by omega))
 have hs1 := HVS.out.s1
 have hs2 := HVS.out.s2
 have hq1 := HVS.out.p1
 have hq2 := HVS.out.p2
 have hkc : ¬ c = k := by omega
 have u1 : decide (k ≤ c) = true := decide_eq_true (by omega)
 have u2 : decide (k + 1 ≤ c) = true := decide_eq_true (by omega)
 have u3 : decide (k ≤ s.pts.length) = true := decide_eq_true (by omega)
 clear hPA hPB ht
 obtain ⟨b0, hb0⟩ : ∃ b, b = wc.heap.size := ⟨_, rfl⟩
 have hb7 : b_r7 < b0 := by omega
 have hb8 : b_r8 < b0 := by omega
 have HB0 := Lib.hid hb0
 clear hb0
 go_upto_region 4 with fail
 refine wp_region_lit ?_
 refine zy 5 ?_
 refine qT (enters_of Tryz.func69 (by kernel_rfl) rfl) (c := XN _ PA _ (RA.out _ pc) (by have := HLA.out; omega)) (h := ?_)
 rintro e wn ⟨a4, c4, rfl, o7, za⟩
 have zf := B.size
 have zg := za.size
 replace B := B.trans (za.mono B.size)
 (try replace r2 := r2.below za)
 (try replace r4 := r4.below za)
 (try replace r5 := r5.below za)
 (try replace r7 := r7.below za)
 (try replace r8 := r8.below za)
 (try replace pc := pc.below za)
 replace o7 := o7.mono (show b0 ≤ _ from by have := HB0.out; omega)
 refine ⟨_, rfl, ?_⟩
 simp only [zn]
 refine zy 1 ?_
 (refine xw (t := 30) rfl _ _ rfl _ 0 rfl _ _ _ rfl r7 rfl (qG B (by omega) ?_); clear r7 B; intro wn r7 ze zf zg B; replace o7 := o7.chg ze (by omega); (try replace r2 := r2.of_eq (ze.block _ r2.lt (by omega))); (try replace r4 := r4.of_eq (ze.block _ r4.lt (by omega))); (try replace r5 := r5.of_eq (ze.block _ r5.lt (by omega))); (try replace r8 := r8.of_eq (ze.block _ r8.lt (by omega))); (try replace pc := pc.of_eq (ze.block _ pc.lt (by omega))); simp only [zn])
 refine wpList_nil ?_
 replace r7 : zJ 30 _ b_r7 (qR (.slice a4 PA.length c4) s) := r7
 go_upto_region 5 with fail
 refine wp_region_lit ?_
 refine zy 4 ?_
 refine qT (enters_of Tryz.func69 (by kernel_rfl) rfl) (c := XN _ PB _ (RB.out _ pc) (by have := HLB.out; omega)) (h := ?_)
 rintro e wn ⟨a5, c5, rfl, o8, za⟩
 have zf := B.size
 have zg := za.size
 replace B := B.trans (za.mono B.size)
 (try replace r2 := r2.below za)
 (try replace r4 := r4.below za)
 (try replace r5 := r5.below za)
 (try replace r7 := r7.below za)
 (try replace r8 := r8.below za)
 (try replace pc := pc.below za)
 (try replace o7 := o7.below za)
 replace o8 := o8.mono (show b0 ≤ _ from by have := HB0.out; omega)
 refine ⟨_, rfl, ?_⟩
 simp only [zn]
 refine zy 1 ?_
 (refine xw (t := 30) rfl _ _ rfl _ 0 rfl _ _ _ rfl r8 rfl (qG B (by omega) ?_); clear r8 B; intro wn r8 ze zf zg B; replace o7 := o7.chg ze (by omega); replace o8 := o8.chg ze (by omega); (try replace r2 := r2.of_eq (ze.block _ r2.lt (by omega))); (try replace r4 := r4.of_eq (ze.block _ r4.lt (by omega))); (try replace r5 := r5.of_eq (ze.block _ r5.lt (by omega))); (try replace r7 := r7.of_eq (ze.block _ r7.lt (by omega))); (try replace pc := pc.of_eq (ze.block _ pc.lt (by omega))); simp only [zn])
 refine wpList_nil ?_
 replace r8 : zJ 30 _ b_r8 (qR (.slice a5 PB.length c5) s) := r8
 clear pc
 go_upto_region 6 with fail
 have rs7 := o7.rs
 try have lx_r2 := r2.lt
 try have lx_r4 := r4.lt
 try have lx_r5 := r5.lt
 try have lx_r7 := r7.lt
 try have lx_r8 := r8.lt
 try have lx_o7 := o7.lt
 try have lx_o8 := o8.lt
 try have lx_rs7 := rs7.lt
 refine zF 7 [(4, zE ?v1_4)] (by kernel_rfl) (by kernel_rfl) (by kernel_rfl) ?_
 rotate_left 1
 simp only [jK, Nat.reduceAdd]
 refine vT 4 ?_
 refine zz (by rfl) (by first | rfl | simp [Region.wanted, yielded]) ?_ ?_
 ·intro wn za hE Kx hKx
  have zf := B.size; have zg := za.size; replace B := B.trans (za.mono B.size)
  (try replace r2 := r2.below za)
  (try replace r4 := r4.below za)
  (try replace r5 := r5.below za)
  (try replace r7 := r7.below za)
  (try replace r8 := r8.below za)
  (try replace o7 := o7.below za)
  (try replace o8 := o8.below za)
  (try replace rs7 := rs7.below za)
  refine zG rfl (enters_of Tryz.func54 (by kernel_rfl) rfl) (by simp only [Act.eval, qo]; rfl) ?_
  refine (Vu _ PA t wn rs7 (by have := HLA.out; omega) HOKA.out HT.out).mono ?_
  rintro e wm ⟨rfl, zl⟩; refine ⟨_, rfl, ?_⟩; have hz := hKx () wm trivial zl
  dsimp only [zE] at hz
  exact hz
 rintro ⟨⟩
 dsimp only [zE]
 simp only [zn]
 refine vT 2 ?_
 refine zY ?_
 intro wn za hE
 have zf := B.size
 have zg := za.size
 replace B := B.trans (za.mono B.size)
 (try replace r2 := r2.below za)
 (try replace r4 := r4.below za)
 (try replace r5 := r5.below za)
 (try replace r7 := r7.below za)
 (try replace r8 := r8.below za)
 (try replace o7 := o7.below za)
 (try replace o8 := o8.below za)
 (try replace rs7 := rs7.below za)
 clear hE
 try simp only [List.drop_succ_cons, List.drop_zero]
 go_wp2_with (first | (refine jn (t := 30) rfl _ _ rfl _ 8 rfl _ rfl r8 rfl (qG B (by omega) ?_); clear r8 B; intro wn r8 ze zf zg B; replace o7 := o7.chg ze (by omega); replace o8 := o8.chg ze (by omega); (try replace r2 := r2.of_eq (ze.block _ r2.lt (by omega))); (try replace r4 := r4.of_eq (ze.block _ r4.lt (by omega))); (try replace r5 := r5.of_eq (ze.block _ r5.lt (by omega))); (try replace r7 := r7.of_eq (ze.block _ r7.lt (by omega))); simp only [zn]) | fail)
 refine zN.normal ?_
 replace r8 : zJ 30 _ b_r8 (qR (.slice a5 PB.length c5) ⟨s.pts, s.rad, s.spa, s.col, s.era, s.pha - t⟩) := r8
 clear rs7
 have hbw : w.heap.size ≤ b0 := by omega
 go_upto_region 7 with fail
 by_cases hneg : s.pha - t < 0
 ·have q3 : decide (s.pha - t < 0) = true := decide_eq_true hneg
  have hnn : 0 ≤ s.spa - 1 - (s.pha - t) := by omega
  have hdb : 0 ≤ (s.spa - 1 - (s.pha - t)) / s.spa := Int.ediv_nonneg hnn (by omega); have hdb2 : (s.spa - 1 - (s.pha - t)) / s.spa ≤ s.spa - 1 - (s.pha - t) := Int.ediv_le_self _ hnn; have hmb := jW (a := (s.spa - 1 - (s.pha - t)) / s.spa) (b := s.spa) (m := 200000000) (k := 4096) hdb (by omega) (by omega) hs2; have e0 : s.spa ≠ 0 := by omega
  have e00 : (s.spa == 0) = false := by simp; omega
  obtain ⟨ph, hph⟩ : ∃ p, s.pha - t + (s.spa - 1 - (s.pha - t)) / s.spa * s.spa = p := ⟨_, rfl⟩; have HPHV := Lib.hid hph; have HPV := Lib.hid (show zce s k = ph from by rw [HPH.out, if_pos hneg, hph]); clear hph; refine wp_region_lit ?_; refine zy 3 ?_
  refine wpList_nil ?_; go_upto_region 8 with fail
  try have lx_r2 := r2.lt
  try have lx_r4 := r4.lt
  try have lx_r5 := r5.lt
  try have lx_r7 := r7.lt
  try have lx_r8 := r8.lt
  try have lx_o7 := o7.lt
  try have lx_o8 := o8.lt
  refine zF 16 [] (by kernel_rfl) (by kernel_rfl) (by kernel_rfl) ?_
  rotate_left 0
  simp only [jK, Nat.reduceAdd]; refine vT 16 ?_
  refine zY ?_; intro wn za hE; have zf := B.size; have zg := za.size; replace B := B.trans (za.mono B.size)
  (try replace r2 := r2.below za)
  (try replace r4 := r4.below za)
  (try replace r5 := r5.below za)
  (try replace r7 := r7.below za)
  (try replace r8 := r8.below za)
  (try replace o7 := o7.below za)
  (try replace o8 := o8.below za)
  clear hE; try simp only [List.drop_succ_cons, List.drop_zero]
  go_wp2_with (first | (refine jn (t := 30) rfl _ _ rfl _ 8 rfl _ rfl r8 rfl (qG B (by omega) ?_); clear r8 B; intro wn r8 ze zf zg B; replace o7 := o7.chg ze (by omega); replace o8 := o8.chg ze (by omega); (try replace r2 := r2.of_eq (ze.block _ r2.lt (by omega))); (try replace r4 := r4.of_eq (ze.block _ r4.lt (by omega))); (try replace r5 := r5.of_eq (ze.block _ r5.lt (by omega))); (try replace r7 := r7.of_eq (ze.block _ r7.lt (by omega))); simp only [zn]) | fail)
  refine zN.normal ?_; replace r8 : zJ 30 _ b_r8 (qR (.slice a5 PB.length c5) ⟨s.pts, s.rad, s.spa, s.col, s.era, s.pha - t + (s.spa - 1 - (s.pha - t)) / s.spa * s.spa⟩) := r8; rw [HPHV.out] at r8; go_upto_region 9 with fail
  go_cut [6] from 9 to 67 (fun s6 wx => s6 = .int .i64 0 ∧ Below w.heap.size w wx ∧ qE qQ b0 (.slice a4 PA.length c4) PA wx ∧ qE qQ b0 (.slice a5 PB.length c5) PB wx ∧ zJ 30 wx b_r4 (qR (.slice a4 PA.length c4) s) ∧ zJ 30 wx b_r5 (qR (.slice a5 PB.length c5) ⟨s.pts, s.rad, s.spa, s.col, s.era, ph⟩))
  case first =>
   refine wp_region_any (by kernel_rfl) ?_; change wpAny _ _ _ _ _ _ _ (World.drew _)
   replace B := B.drew; replace r2 := zJ.drewN r2; replace r4 := zJ.drewN r4; replace r5 := zJ.drewN r5; replace r7 := zJ.drewN r7; replace r8 := zJ.drewN r8; replace o7 := o7.below ((Below.refl _ _).drew); replace o8 := o8.below ((Below.refl _ _).drew)
   generalize wn.drew = w7 at *
   refine wpAny_ready (rs := [0, 1]) (by kernel_rfl) (by simp) ?_; refine AllReady.cons rfl (fun K hK => jj rfl ?_) ?_
   ·simp only [zP]
    refine xe (t := 30) _ _ rfl rfl r7 Tryz.isAgg30 (by kernel_rfl) ?_; refine hK _ _ ?_; simp only [zn]; clear hK K; refine wpAny_ready (rs := [1, 2]) (by kernel_rfl) (by simp) ?_; refine AllReady.cons rfl (fun K hK => jj rfl ?_) ?_
    ·simp only [zP]
     refine xe (t := 30) _ _ rfl rfl r8 Tryz.isAgg30 (by kernel_rfl) ?_; refine hK _ _ ?_; simp only [zn]; clear hK K; refine wpAny_ready (rs := [2]) (by kernel_rfl) (by simp) ?_; refine AllReady.cons rfl (fun K hK => jj rfl ?_) ?_
     ·simp only [zP]
      refine qX (t := 30) _ _ _ _ rfl rfl rfl r4 (by kernel_rfl) rfl (by simp [qR, Value.oneCell']) ?_; clear r4; intro wn r4 ze zg; have zf := B.size; replace zg := Nat.le_of_eq zg.symm; replace B := qV.below B ze (by omega) B.size; replace o7 := o7.chg ze (by omega); replace o8 := o8.chg ze (by omega); replace r2 := r2.of_eq (ze.block _ r2.lt (by omega)); replace r5 := r5.of_eq (ze.block _ r5.lt (by omega)); replace r7 := r7.of_eq (ze.block _ r7.lt (by omega)); replace r8 := r8.of_eq (ze.block _ r8.lt (by omega)); refine hK _ _ ?_; simp only [zn]; clear hK K; refine wpAny_ready (rs := [3]) (by kernel_rfl) (by simp) ?_; refine AllReady.cons rfl (fun K hK => jj rfl ?_) ?_
      ·simp only [zP]
       refine qX (t := 30) _ _ _ _ rfl rfl rfl r5 (by kernel_rfl) rfl (by simp [qR, Value.oneCell']) ?_; clear r5; intro wn r5 ze zg; have zf := B.size; replace zg := Nat.le_of_eq zg.symm; replace B := qV.below B ze (by omega) B.size; replace o7 := o7.chg ze (by omega); replace o8 := o8.chg ze (by omega); replace r2 := r2.of_eq (ze.block _ r2.lt (by omega)); replace r4 := r4.of_eq (ze.block _ r4.lt (by omega)); replace r7 := r7.of_eq (ze.block _ r7.lt (by omega)); replace r8 := r8.of_eq (ze.block _ r8.lt (by omega)); refine hK _ _ ?_; simp only [zn]; clear hK K; refine wpAny_ready (rs := [4]) (by kernel_rfl) (by simp) ?_; refine AllReady.cons rfl (fun K hK => jj rfl ?_) ?_
       ·simp only [zP]
        refine wL (_) (by rfl) ?_; refine hK _ _ ?_; simp only [zn]; clear hK K; refine wpAny_done (by kernel_rfl) ?_ _; go_wp2_with fail
        go_meet; exact ⟨rfl, B, o7, o8, r4, r5⟩
       exact AllReady.nil
      exact AllReady.nil
     exact AllReady.nil
    refine AllReady.cons rfl (fun K hK => jj rfl ?_) ?_
    ·simp only [zP]
     refine qX (t := 30) _ _ _ _ rfl rfl rfl r4 (by kernel_rfl) rfl (by simp [qR, Value.oneCell']) ?_; clear r4; intro wn r4 ze zg; have zf := B.size; replace zg := Nat.le_of_eq zg.symm; replace B := qV.below B ze (by omega) B.size; replace o7 := o7.chg ze (by omega); replace o8 := o8.chg ze (by omega); replace r2 := r2.of_eq (ze.block _ r2.lt (by omega)); replace r5 := r5.of_eq (ze.block _ r5.lt (by omega)); replace r7 := r7.of_eq (ze.block _ r7.lt (by omega)); replace r8 := r8.of_eq (ze.block _ r8.lt (by omega)); refine hK _ _ ?_; simp only [zn]; clear hK K; refine wpAny_ready (rs := [1]) (by kernel_rfl) (by simp) ?_; refine AllReady.cons rfl (fun K hK => jj rfl ?_) ?_
     ·simp only [zP]
      refine xe (t := 30) _ _ rfl rfl r8 Tryz.isAgg30 (by kernel_rfl) ?_; refine hK _ _ ?_; simp only [zn]; clear hK K; refine wpAny_ready (rs := [3]) (by kernel_rfl) (by simp) ?_; refine AllReady.cons rfl (fun K hK => jj rfl ?_) ?_
      ·simp only [zP]
       refine qX (t := 30) _ _ _ _ rfl rfl rfl r5 (by kernel_rfl) rfl (by simp [qR, Value.oneCell']) ?_; clear r5; intro wn r5 ze zg; have zf := B.size; replace zg := Nat.le_of_eq zg.symm; replace B := qV.below B ze (by omega) B.size; replace o7 := o7.chg ze (by omega); replace o8 := o8.chg ze (by omega); replace r2 := r2.of_eq (ze.block _ r2.lt (by omega)); replace r4 := r4.of_eq (ze.block _ r4.lt (by omega)); replace r7 := r7.of_eq (ze.block _ r7.lt (by omega)); replace r8 := r8.of_eq (ze.block _ r8.lt (by omega)); refine hK _ _ ?_; simp only [zn]; clear hK K; refine wpAny_ready (rs := [4]) (by kernel_rfl) (by simp) ?_; refine AllReady.cons rfl (fun K hK => jj rfl ?_) ?_
       ·simp only [zP]
        refine wL (_) (by rfl) ?_; refine hK _ _ ?_; simp only [zn]; clear hK K; refine wpAny_done (by kernel_rfl) ?_ _; go_wp2_with fail
        go_meet; exact ⟨rfl, B, o7, o8, r4, r5⟩
       exact AllReady.nil
      exact AllReady.nil
     exact AllReady.nil
    exact AllReady.nil
   refine AllReady.cons rfl (fun K hK => jj rfl ?_) ?_
   ·simp only [zP]
    refine xe (t := 30) _ _ rfl rfl r8 Tryz.isAgg30 (by kernel_rfl) ?_; refine hK _ _ ?_; simp only [zn]; clear hK K; refine wpAny_ready (rs := [0]) (by kernel_rfl) (by simp) ?_; refine AllReady.cons rfl (fun K hK => jj rfl ?_) ?_
    ·simp only [zP]
     refine xe (t := 30) _ _ rfl rfl r7 Tryz.isAgg30 (by kernel_rfl) ?_; refine hK _ _ ?_; simp only [zn]; clear hK K; refine wpAny_ready (rs := [2]) (by kernel_rfl) (by simp) ?_; refine AllReady.cons rfl (fun K hK => jj rfl ?_) ?_
     ·simp only [zP]
      refine qX (t := 30) _ _ _ _ rfl rfl rfl r4 (by kernel_rfl) rfl (by simp [qR, Value.oneCell']) ?_; clear r4; intro wn r4 ze zg; have zf := B.size; replace zg := Nat.le_of_eq zg.symm; replace B := qV.below B ze (by omega) B.size; replace o7 := o7.chg ze (by omega); replace o8 := o8.chg ze (by omega); replace r2 := r2.of_eq (ze.block _ r2.lt (by omega)); replace r5 := r5.of_eq (ze.block _ r5.lt (by omega)); replace r7 := r7.of_eq (ze.block _ r7.lt (by omega)); replace r8 := r8.of_eq (ze.block _ r8.lt (by omega)); refine hK _ _ ?_; simp only [zn]; clear hK K; refine wpAny_ready (rs := [3]) (by kernel_rfl) (by simp) ?_; refine AllReady.cons rfl (fun K hK => jj rfl ?_) ?_
      ·simp only [zP]
       refine qX (t := 30) _ _ _ _ rfl rfl rfl r5 (by kernel_rfl) rfl (by simp [qR, Value.oneCell']) ?_; clear r5; intro wn r5 ze zg; have zf := B.size; replace zg := Nat.le_of_eq zg.symm; replace B := qV.below B ze (by omega) B.size; replace o7 := o7.chg ze (by omega); replace o8 := o8.chg ze (by omega); replace r2 := r2.of_eq (ze.block _ r2.lt (by omega)); replace r4 := r4.of_eq (ze.block _ r4.lt (by omega)); replace r7 := r7.of_eq (ze.block _ r7.lt (by omega)); replace r8 := r8.of_eq (ze.block _ r8.lt (by omega)); refine hK _ _ ?_; simp only [zn]; clear hK K; refine wpAny_ready (rs := [4]) (by kernel_rfl) (by simp) ?_; refine AllReady.cons rfl (fun K hK => jj rfl ?_) ?_
       ·simp only [zP]
        refine wL (_) (by rfl) ?_; refine hK _ _ ?_; simp only [zn]; clear hK K; refine wpAny_done (by kernel_rfl) ?_ _; go_wp2_with fail
        go_meet; exact ⟨rfl, B, o7, o8, r4, r5⟩
       exact AllReady.nil
      exact AllReady.nil
     exact AllReady.nil
    exact AllReady.nil
   exact AllReady.nil
  case rest =>
  clear B o7 o8 r4 r5; obtain ⟨rfl, B, o7, o8, r4, r5⟩ := hcut; first | (refine bodyPost_ret (jx (t := 30) (u := 30) rfl _ _ b_r4 b_r5 rfl rfl _ rfl r4 r5 Tryz.isAgg30 (by kernel_rfl) Tryz.isAgg30 (by kernel_rfl)) rfl ?_) | (go_step; refine bodyPost_ret (jx (t := 30) (u := 30) rfl _ _ b_r4 b_r5 rfl rfl _ rfl r4 r5 Tryz.isAgg30 (by kernel_rfl) Tryz.isAgg30 (by kernel_rfl)) rfl ?_) | (go_step; go_step; refine bodyPost_ret (jx (t := 30) (u := 30) rfl _ _ b_r4 b_r5 rfl rfl _ rfl r4 r5 Tryz.isAgg30 (by kernel_rfl) Tryz.isAgg30 (by kernel_rfl)) rfl ?_) | (go_step; go_step; go_step; refine bodyPost_ret (jx (t := 30) (u := 30) rfl _ _ b_r4 b_r5 rfl rfl _ rfl r4 r5 Tryz.isAgg30 (by kernel_rfl) Tryz.isAgg30 (by kernel_rfl)) rfl ?_) | (go_step; go_step; go_step; go_step; refine bodyPost_ret (jx (t := 30) (u := 30) rfl _ _ b_r4 b_r5 rfl rfl _ rfl r4 r5 Tryz.isAgg30 (by kernel_rfl) Tryz.isAgg30 (by kernel_rfl)) rfl ?_) | (go_step; go_step; go_step; go_step; go_step; refine bodyPost_ret (jx (t := 30) (u := 30) rfl _ _ b_r4 b_r5 rfl rfl _ rfl r4 r5 Tryz.isAgg30 (by kernel_rfl) Tryz.isAgg30 (by kernel_rfl)) rfl ?_)
  have e4 : qR (.slice a4 PA.length c4) s = qR (.slice a4 PA.length c4) (spA s k) := rfl; have e5 : qR (.slice a5 PB.length c5) ⟨s.pts, s.rad, s.spa, s.col, s.era, ph⟩ = qR (.slice a5 PB.length c5) (spB s k) := by rw [← HPV.out]; rfl
  rw [e4, e5]; exact ⟨_, _, rfl, by show qE qQ _ _ (s.pts.take (k + 1)) _; rw [HPA.out]; exact o7.mono (by have := HB0.out; omega), by show qE qQ _ _ (s.pts.drop k) _; rw [HPB.out]; exact o8.mono (by have := HB0.out; omega), B⟩
 ·have q3 : decide (s.pha - t < 0) = false := decide_eq_false hneg
  obtain ⟨ph, hph⟩ : ∃ p, s.pha - t = p := ⟨_, rfl⟩; have HPV := Lib.hid (show zce s k = ph from by rw [HPH.out, if_neg hneg, hph]); have HPHV := Lib.hid hph; clear hph; refine wp_region_lit ?_; refine zy 3 ?_
  refine wpList_nil ?_; rw [HPHV.out] at r8; go_upto_region 9 with fail
  go_cut [6] from 9 to 67 (fun s6 wx => s6 = .int .i64 0 ∧ Below w.heap.size w wx ∧ qE qQ b0 (.slice a4 PA.length c4) PA wx ∧ qE qQ b0 (.slice a5 PB.length c5) PB wx ∧ zJ 30 wx b_r4 (qR (.slice a4 PA.length c4) s) ∧ zJ 30 wx b_r5 (qR (.slice a5 PB.length c5) ⟨s.pts, s.rad, s.spa, s.col, s.era, ph⟩))
  case first =>
   refine wp_region_any (by kernel_rfl) ?_; change wpAny _ _ _ _ _ _ _ (World.drew _)
   replace B := B.drew; replace r2 := zJ.drewN r2; replace r4 := zJ.drewN r4; replace r5 := zJ.drewN r5; replace r7 := zJ.drewN r7; replace r8 := zJ.drewN r8; replace o7 := o7.below ((Below.refl _ _).drew); replace o8 := o8.below ((Below.refl _ _).drew)
   generalize wn.drew = w7 at *
   refine wpAny_ready (rs := [0, 1]) (by kernel_rfl) (by simp) ?_; refine AllReady.cons rfl (fun K hK => jj rfl ?_) ?_
   ·simp only [zP]
    refine xe (t := 30) _ _ rfl rfl r7 Tryz.isAgg30 (by kernel_rfl) ?_; refine hK _ _ ?_; simp only [zn]; clear hK K; refine wpAny_ready (rs := [1, 2]) (by kernel_rfl) (by simp) ?_; refine AllReady.cons rfl (fun K hK => jj rfl ?_) ?_
    ·simp only [zP]
     refine xe (t := 30) _ _ rfl rfl r8 Tryz.isAgg30 (by kernel_rfl) ?_; refine hK _ _ ?_; simp only [zn]; clear hK K; refine wpAny_ready (rs := [2]) (by kernel_rfl) (by simp) ?_; refine AllReady.cons rfl (fun K hK => jj rfl ?_) ?_
     ·simp only [zP]
      refine qX (t := 30) _ _ _ _ rfl rfl rfl r4 (by kernel_rfl) rfl (by simp [qR, Value.oneCell']) ?_; clear r4; intro wn r4 ze zg; have zf := B.size; replace zg := Nat.le_of_eq zg.symm; replace B := qV.below B ze (by omega) B.size; replace o7 := o7.chg ze (by omega); replace o8 := o8.chg ze (by omega); replace r2 := r2.of_eq (ze.block _ r2.lt (by omega)); replace r5 := r5.of_eq (ze.block _ r5.lt (by omega)); replace r7 := r7.of_eq (ze.block _ r7.lt (by omega)); replace r8 := r8.of_eq (ze.block _ r8.lt (by omega)); refine hK _ _ ?_; simp only [zn]; clear hK K; refine wpAny_ready (rs := [3]) (by kernel_rfl) (by simp) ?_; refine AllReady.cons rfl (fun K hK => jj rfl ?_) ?_
      ·simp only [zP]
       refine qX (t := 30) _ _ _ _ rfl rfl rfl r5 (by kernel_rfl) rfl (by simp [qR, Value.oneCell']) ?_; clear r5; intro wn r5 ze zg; have zf := B.size; replace zg := Nat.le_of_eq zg.symm; replace B := qV.below B ze (by omega) B.size; replace o7 := o7.chg ze (by omega); replace o8 := o8.chg ze (by omega); replace r2 := r2.of_eq (ze.block _ r2.lt (by omega)); replace r4 := r4.of_eq (ze.block _ r4.lt (by omega)); replace r7 := r7.of_eq (ze.block _ r7.lt (by omega)); replace r8 := r8.of_eq (ze.block _ r8.lt (by omega)); refine hK _ _ ?_; simp only [zn]; clear hK K; refine wpAny_ready (rs := [4]) (by kernel_rfl) (by simp) ?_; refine AllReady.cons rfl (fun K hK => jj rfl ?_) ?_
       ·simp only [zP]
        refine wL (_) (by rfl) ?_; refine hK _ _ ?_; simp only [zn]; clear hK K; refine wpAny_done (by kernel_rfl) ?_ _; go_wp2_with fail
        go_meet; exact ⟨rfl, B, o7, o8, r4, r5⟩
       exact AllReady.nil
      exact AllReady.nil
     exact AllReady.nil
    refine AllReady.cons rfl (fun K hK => jj rfl ?_) ?_
    ·simp only [zP]
     refine qX (t := 30) _ _ _ _ rfl rfl rfl r4 (by kernel_rfl) rfl (by simp [qR, Value.oneCell']) ?_; clear r4; intro wn r4 ze zg; have zf := B.size; replace zg := Nat.le_of_eq zg.symm; replace B := qV.below B ze (by omega) B.size; replace o7 := o7.chg ze (by omega); replace o8 := o8.chg ze (by omega); replace r2 := r2.of_eq (ze.block _ r2.lt (by omega)); replace r5 := r5.of_eq (ze.block _ r5.lt (by omega)); replace r7 := r7.of_eq (ze.block _ r7.lt (by omega)); replace r8 := r8.of_eq (ze.block _ r8.lt (by omega)); refine hK _ _ ?_; simp only [zn]; clear hK K; refine wpAny_ready (rs := [1]) (by kernel_rfl) (by simp) ?_; refine AllReady.cons rfl (fun K hK => jj rfl ?_) ?_
     ·simp only [zP]
      refine xe (t := 30) _ _ rfl rfl r8 Tryz.isAgg30 (by kernel_rfl) ?_; refine hK _ _ ?_; simp only [zn]; clear hK K; refine wpAny_ready (rs := [3]) (by kernel_rfl) (by simp) ?_; refine AllReady.cons rfl (fun K hK => jj rfl ?_) ?_
      ·simp only [zP]
       refine qX (t := 30) _ _ _ _ rfl rfl rfl r5 (by kernel_rfl) rfl (by simp [qR, Value.oneCell']) ?_; clear r5; intro wn r5 ze zg; have zf := B.size; replace zg := Nat.le_of_eq zg.symm; replace B := qV.below B ze (by omega) B.size; replace o7 := o7.chg ze (by omega); replace o8 := o8.chg ze (by omega); replace r2 := r2.of_eq (ze.block _ r2.lt (by omega)); replace r4 := r4.of_eq (ze.block _ r4.lt (by omega)); replace r7 := r7.of_eq (ze.block _ r7.lt (by omega)); replace r8 := r8.of_eq (ze.block _ r8.lt (by omega)); refine hK _ _ ?_; simp only [zn]; clear hK K; refine wpAny_ready (rs := [4]) (by kernel_rfl) (by simp) ?_; refine AllReady.cons rfl (fun K hK => jj rfl ?_) ?_
       ·simp only [zP]
        refine wL (_) (by rfl) ?_; refine hK _ _ ?_; simp only [zn]; clear hK K; refine wpAny_done (by kernel_rfl) ?_ _; go_wp2_with fail
        go_meet; exact ⟨rfl, B, o7, o8, r4, r5⟩
       exact AllReady.nil
      exact AllReady.nil
     exact AllReady.nil
    exact AllReady.nil
   refine AllReady.cons rfl (fun K hK => jj rfl ?_) ?_
   ·simp only [zP]
    refine xe (t := 30) _ _ rfl rfl r8 Tryz.isAgg30 (by kernel_rfl) ?_; refine hK _ _ ?_; simp only [zn]; clear hK K; refine wpAny_ready (rs := [0]) (by kernel_rfl) (by simp) ?_; refine AllReady.cons rfl (fun K hK => jj rfl ?_) ?_
    ·simp only [zP]
     refine xe (t := 30) _ _ rfl rfl r7 Tryz.isAgg30 (by kernel_rfl) ?_; refine hK _ _ ?_; simp only [zn]; clear hK K; refine wpAny_ready (rs := [2]) (by kernel_rfl) (by simp) ?_; refine AllReady.cons rfl (fun K hK => jj rfl ?_) ?_
     ·simp only [zP]
      refine qX (t := 30) _ _ _ _ rfl rfl rfl r4 (by kernel_rfl) rfl (by simp [qR, Value.oneCell']) ?_; clear r4; intro wn r4 ze zg; have zf := B.size; replace zg := Nat.le_of_eq zg.symm; replace B := qV.below B ze (by omega) B.size; replace o7 := o7.chg ze (by omega); replace o8 := o8.chg ze (by omega); replace r2 := r2.of_eq (ze.block _ r2.lt (by omega)); replace r5 := r5.of_eq (ze.block _ r5.lt (by omega)); replace r7 := r7.of_eq (ze.block _ r7.lt (by omega)); replace r8 := r8.of_eq (ze.block _ r8.lt (by omega)); refine hK _ _ ?_; simp only [zn]; clear hK K; refine wpAny_ready (rs := [3]) (by kernel_rfl) (by simp) ?_; refine AllReady.cons rfl (fun K hK => jj rfl ?_) ?_
      ·simp only [zP]
       refine qX (t := 30) _ _ _ _ rfl rfl rfl r5 (by kernel_rfl) rfl (by simp [qR, Value.oneCell']) ?_; clear r5; intro wn r5 ze zg; have zf := B.size; replace zg := Nat.le_of_eq zg.symm; replace B := qV.below B ze (by omega) B.size; replace o7 := o7.chg ze (by omega); replace o8 := o8.chg ze (by omega); replace r2 := r2.of_eq (ze.block _ r2.lt (by omega)); replace r4 := r4.of_eq (ze.block _ r4.lt (by omega)); replace r7 := r7.of_eq (ze.block _ r7.lt (by omega)); replace r8 := r8.of_eq (ze.block _ r8.lt (by omega)); refine hK _ _ ?_; simp only [zn]; clear hK K; refine wpAny_ready (rs := [4]) (by kernel_rfl) (by simp) ?_; refine AllReady.cons rfl (fun K hK => jj rfl ?_) ?_
       ·simp only [zP]
        refine wL (_) (by rfl) ?_; refine hK _ _ ?_; simp only [zn]; clear hK K; refine wpAny_done (by kernel_rfl) ?_ _; go_wp2_with fail
        go_meet; exact ⟨rfl, B, o7, o8, r4, r5⟩
       exact AllReady.nil
      exact AllReady.nil
     exact AllReady.nil
    exact AllReady.nil
   exact AllReady.nil
  case rest =>
  clear B o7 o8 r4 r5; obtain ⟨rfl, B, o7, o8, r4, r5⟩ := hcut; first | (refine bodyPost_ret (jx (t := 30) (u := 30) rfl _ _ b_r4 b_r5 rfl rfl _ rfl r4 r5 Tryz.isAgg30 (by kernel_rfl) Tryz.isAgg30 (by kernel_rfl)) rfl ?_) | (go_step; refine bodyPost_ret (jx (t := 30) (u := 30) rfl _ _ b_r4 b_r5 rfl rfl _ rfl r4 r5 Tryz.isAgg30 (by kernel_rfl) Tryz.isAgg30 (by kernel_rfl)) rfl ?_) | (go_step; go_step; refine bodyPost_ret (jx (t := 30) (u := 30) rfl _ _ b_r4 b_r5 rfl rfl _ rfl r4 r5 Tryz.isAgg30 (by kernel_rfl) Tryz.isAgg30 (by kernel_rfl)) rfl ?_) | (go_step; go_step; go_step; refine bodyPost_ret (jx (t := 30) (u := 30) rfl _ _ b_r4 b_r5 rfl rfl _ rfl r4 r5 Tryz.isAgg30 (by kernel_rfl) Tryz.isAgg30 (by kernel_rfl)) rfl ?_) | (go_step; go_step; go_step; go_step; refine bodyPost_ret (jx (t := 30) (u := 30) rfl _ _ b_r4 b_r5 rfl rfl _ rfl r4 r5 Tryz.isAgg30 (by kernel_rfl) Tryz.isAgg30 (by kernel_rfl)) rfl ?_) | (go_step; go_step; go_step; go_step; go_step; refine bodyPost_ret (jx (t := 30) (u := 30) rfl _ _ b_r4 b_r5 rfl rfl _ rfl r4 r5 Tryz.isAgg30 (by kernel_rfl) Tryz.isAgg30 (by kernel_rfl)) rfl ?_)
  have e4 : qR (.slice a4 PA.length c4) s = qR (.slice a4 PA.length c4) (spA s k) := rfl; have e5 : qR (.slice a5 PB.length c5) ⟨s.pts, s.rad, s.spa, s.col, s.era, ph⟩ = qR (.slice a5 PB.length c5) (spB s k) := by rw [← HPV.out]; rfl
  rw [e4, e5]; exact ⟨_, _, rfl, by show qE qQ _ _ (s.pts.take (k + 1)) _; rw [HPA.out]; exact o7.mono (by have := HB0.out; omega), by show qE qQ _ _ (s.pts.drop k) _; rw [HPB.out]; exact o8.mono (by have := HB0.out; omega), B⟩
end Go.Proofs.YtepelndbbhdofaaGreatDoor
/- Contract of Read of package stroke. -/
namespace Go.Proofs.YtepelndbbhdofaaGreatDoor
open Go.RowKit Sha Pl
set_option linter.unusedVariables false
set_option linter.unusedSimpArgs false
set_option maxRecDepth 20000
/-! ### The states of the reader -/
def KX (l : List UInt8) (st : Nat × Bool) : Sp × (Nat × Bool) := (⟨(beN (kA l st 3).1 : Int) - 1048576, (beN (kA l (kA l st 3).2 3).1 : Int) - 1048576, (beN (kA l (kA l (kA l st 3).2 3).2 1).1 : Int)⟩, (kA l (kA l (kA l st 3).2 3).2 1).2)
def QH (l : List UInt8) : Nat → List Sp × (Nat × Bool)
 | 0 => ([], (kA l (0, false) 1).2)
 | k + 1 => ((QH l k).1 ++ [(KX l (QH l k).2).1], (KX l (QH l k).2).2)
theorem We (l : List UInt8) : ∀ k, (QH l k).1.length = k
 | 0 => rfl
 | k + 1 => by
  show ((QH l k).1 ++ [_]).length = _
  rw [List.length_append, We l k]
  rfl
theorem zfl {l : List UInt8} {st : Nat × Bool} (h : (KX l st).2.2 = false) : st.2 = false ∧ (KX l st).2.1 = st.1 + 7 ∧ st.1 + 7 ≤ l.length := by
 obtain ⟨a1, a2, a3⟩ := vp (l := l) (m := 1) h
 obtain ⟨b1, b2, b3⟩ := vp a1
 obtain ⟨c1, c2, c3⟩ := vp b1
 refine ⟨c1, ?_, ?_⟩
 ·show (kA l (kA l (kA l st 3).2 3).2 1).2.1 = _
  rw [a2, b2, c2]
 ·rw [b2, c2] at a3
  omega
theorem zcq (l : List UInt8) : ∀ k, (QH l k).2.2 = false → (QH l k).2.1 = 1 + 7 * k ∧ 1 + 7 * k ≤ l.length
 | 0, h => by
  obtain ⟨_, a2, a3⟩ := vp (l := l) (st := (0, false)) (m := 1) h; exact ⟨by show (kA l (0, false) 1).2.1 = _; rw [a2], by simpa using a3⟩
 | k + 1, h => by
  obtain ⟨a1, a2, a3⟩ := zfl (l := l) h; obtain ⟨b1, b2⟩ := zcq l k a1; refine ⟨?_, ?_⟩
  ·show (KX l (QH l k).2).2.1 = _
   rw [a2, b1]; omega
  ·rw [b1] at a3
   omega
theorem zfm {l : List UInt8} {st : Nat × Bool} (h : st.1 ≤ l.length) : (KX l st).2.1 ≤ l.length := kH (kH (kH h))
theorem zcr (l : List UInt8) : ∀ k, (QH l k).2.1 ≤ l.length
 | 0 => kH (Nat.zero_le _)
 | k + 1 => zfm (zcr l k)
theorem zfn {l : List UInt8} {k : Nat} (h : 8 + 7 * k ≤ l.length) : KX l (1 + 7 * k, false) = (wg l k, (1 + 7 * (k + 1), false)) := by
 unfold KX
 rw [kh (by omega)]
 simp only
 rw [kh (by omega)]
 simp only
 rw [kh (by omega)]
 simp only
 unfold wg
 rw [show 1 + 7 * k + 3 = 4 + 7 * k by omega, show 4 + 7 * k + 3 = 7 + 7 * k by omega, show 7 + 7 * k + 1 = 1 + 7 * (k + 1) by omega]
theorem KW (l : List UInt8) : ∀ k, 1 + 7 * k ≤ l.length → QH l k = ((List.range k).map (wg l), (1 + 7 * k, false))
 | 0, h => by
  show ([], (kA l (0, false) 1).2) = _
  rw [kh (by omega)]
  rfl
 | k + 1, h => by
  show ((QH l k).1 ++ [(KX l (QH l k).2).1], (KX l (QH l k).2).2) = _
  rw [KW l k (by omega)]; simp only; rw [zfn (by omega), List.range_succ, List.map_append]
  rfl
theorem zcs (l : List UInt8) : beN (kA l (0, false) 1).1 = xV l := by
 unfold xV
 by_cases h : 0 + 1 ≤ l.length
 ·rw [kh h]
 ·have : l = [] := List.length_eq_zero_iff.1 (by omega)
  subst this
  rfl
/-- What the reader takes behind the points. -/
structure Tl (l : List UInt8) (st : Nat × Bool) (a b c d e : List UInt8) (s1 s2 s3 s4 s5 : Nat × Bool) : Prop where
 h1 : kA l st 2 = (a, s1)
 h2 : kA l s1 2 = (b, s2)
 h3 : kA l s2 4 = (c, s3)
 h4 : kA l s3 1 = (d, s4)
 h5 : kA l s4 3 = (e, s5)
theorem zem (l : List UInt8) (st : Nat × Bool) : ∃ a b c d e s1 s2 s3 s4 s5, Tl l st a b c d e s1 s2 s3 s4 s5 := ⟨_, _, _, _, _, _, _, _, _, _, ⟨rfl, rfl, rfl, rfl, rfl⟩⟩
theorem Tl.bad {l : List UInt8} {k : Nat} {a b c d e : List UInt8} {s1 s2 s3 s4 s5 : Nat × Bool} (h : Tl l (QH l k).2 a b c d e s1 s2 s3 s4 s5) (hl : l.length < 13 + 7 * k) : s5.2 = true := by
 cases hs : s5.2 with
 | true => rfl
 | false =>
  obtain ⟨a1, a2, a3⟩ := vp (l := l) (st := s4) (m := 3) (by rw [h.h5]; exact hs)
  obtain ⟨b1, b2, b3⟩ := vp (l := l) (st := s3) (m := 1) (by rw [h.h4]; exact a1)
  obtain ⟨c1, c2, c3⟩ := vp (l := l) (st := s2) (m := 4) (by rw [h.h3]; exact b1)
  obtain ⟨d1, d2, d3⟩ := vp (l := l) (st := s1) (m := 2) (by rw [h.h2]; exact c1)
  obtain ⟨e1, e2, e3⟩ := vp (l := l) (st := (QH l k).2) (m := 2) (by rw [h.h1]; exact d1)
  rw [h.h4] at b2; rw [h.h3] at c2; rw [h.h2] at d2; rw [h.h1] at e2; have f := (zcq l k e1).1; simp only at b2 c2 d2 e2; omega
theorem Tl.good {l : List UInt8} {k : Nat} {a b c d e : List UInt8} {s1 s2 s3 s4 s5 : Nat × Bool} (h : Tl l (QH l k).2 a b c d e s1 s2 s3 s4 s5) (hl : 13 + 7 * k ≤ l.length) : s5.2 = false ∧ a = qw l (1 + 7 * k) 2 ∧ b = qw l (3 + 7 * k) 2 ∧ c = qw l (5 + 7 * k) 4 ∧ d = qw l (9 + 7 * k) 1 ∧ e = qw l (10 + 7 * k) 3 := by
 have h1 := h.h1
 rw [KW l k (by omega)] at h1
 simp only at h1
 rw [kh (by omega)] at h1
 injection h1 with e1 e2
 have h2 := h.h2
 rw [← e2, kh (by omega)] at h2
 injection h2 with e3 e4
 have h3 := h.h3
 rw [← e4, kh (by omega)] at h3
 injection h3 with e5 e6
 have h4 := h.h4
 rw [← e6, kh (by omega)] at h4
 injection h4 with e7 e8
 have h5 := h.h5
 rw [← e8, kh (by omega)] at h5
 injection h5 with e9 e10
 rw [← e1, ← e3, ← e5, ← e7, ← e9, ← e10]
 refine ⟨rfl, rfl, ?_, ?_, ?_, ?_⟩ <;> (congr 1; omega)
theorem Tl.le {l : List UInt8} {st : Nat × Bool} {a b c d e : List UInt8} {s1 s2 s3 s4 s5 : Nat × Bool} (h : Tl l st a b c d e s1 s2 s3 s4 s5) (h0 : st.1 ≤ l.length) : s1.1 ≤ l.length ∧ s2.1 ≤ l.length ∧ s3.1 ≤ l.length ∧ s4.1 ≤ l.length := by
 have a1 := kH (m := 2) h0
 rw [h.h1] at a1
 have a2 := kH (m := 2) a1
 rw [h.h2] at a2
 have a3 := kH (m := 4) a2
 rw [h.h3] at a3
 have a4 := kH (m := 1) a3
 rw [h.h4] at a4
 exact ⟨a1, a2, a3, a4⟩
theorem JZ {l : List UInt8} {st : Nat × Bool} {m : Nat} (hm : m ≤ 3) : beN (kA l st m).1 < 16777216 :=
 Nat.lt_of_lt_of_le (vh _) (by rw [show (16777216 : Nat) = 256 ^ 3 from rfl]; exact Nat.pow_le_pow_right (by omega) (Nat.le_trans Z4 hm))
/-- A colour stored into a stroke. -/
theorem u4 {ops : Array Oper} {rest : List Oper} {o : Oper} {a : Act} {w : World} {Q : Exit → Act → World → Prop} (hg : o.guard = none) (x y : Operand) (ho : o.op = .store 28 x y) (b : Nat) (hx : a.eval x = .pointer (some ⟨b, 3, none⟩)) (q : Px) (hy : a.eval y = .agg #[.int .u8 q.r, .int .u8 q.g, .int .u8 q.b, .int .u8 q.a]) {v : Value} {s : qS} (ht : zJ 30 w b (qR v s))
  (h : ∀ w', zJ 30 w' b (qR v { s with col := q }) → qV b w w' → w'.heap.size = w.heap.size → wpList Tryz.prog ops Q rest (a.put o.dst undef) w') : wpList Tryz.prog ops Q (o :: rest) a w := by
 have c3 : w.cell? ⟨b, 3, none⟩ = some (.int .u8 s.col.r) := ht.cell 3 rfl
 have c4 : w.cell? ⟨b, 4, none⟩ = some (.int .u8 s.col.g) := ht.cell 4 rfl
 have c5 : w.cell? ⟨b, 5, none⟩ = some (.int .u8 s.col.b) := ht.cell 5 rfl
 have c6 : w.cell? ⟨b, 6, none⟩ = some (.int .u8 s.col.a) := ht.cell 6 rfl
 have hf := fun j => zJ.frozen ht j
 refine z8 hg x y ho ((((w.setCell ⟨b, 3, none⟩ (.int .u8 q.r)).setCell ⟨b, 4, none⟩ (.int .u8 q.g)).setCell ⟨b, 5, none⟩ (.int .u8 q.b)).setCell ⟨b, 6, none⟩ (.int .u8 q.a)) ?_ (h _ ?_ (((((qV.refl b w).setCell _).setCell _).setCell _).setCell _) (by simp only [World.size_setCell]))
 ·rw [hx, hy]
  simp [go_sem, c3, c4, c5, c6, hf]
 ·exact heap_setCell_same _ b 6 _ _ (.int .u8 q.a) (heap_setCell_same _ b 5 _ _ (.int .u8 q.b) (heap_setCell_same _ b 4 _ _ (.int .u8 q.g) (heap_setCell_same _ b 3 _ _ (.int .u8 q.r) ht)))
/- Contract of Read of package stroke. -/
theorem zcP (s t : ByteArray) : (s.toList == t.toList) = decide (s = t) := by
 rw [ByteArray.toList_eq, ByteArray.toList_eq]
 by_cases h : s = t
 ·rw [decide_eq_true h, h]; simp
 ·rw [decide_eq_false h, beq_eq_false_iff_ne]
  exact fun e => h (by rw [← Jp s, ← Jp t]; exact congrArg jk e)
theorem V3 {a b : List UInt8} : jk a = jk b ↔ a = b := ⟨fun e => congrArg bytes e, fun e => by rw [e]⟩
theorem zcD (A B : List UInt8) (w : World) : (binOp .neq 9 (.string (jk A)) (.string (jk B))).run Tryz.prog w = .ok (.bool (!decide (A = B))) w := by
 have h : decide (jk A = jk B) = decide (A = B) := by
  by_cases e : A = B
  ·rw [decide_eq_true e, decide_eq_true (V3.2 e)]
  ·rw [decide_eq_false e, decide_eq_false (fun k => e (V3.1 k))]
 simp [go_sem, zcP, h]
theorem zcC (t : TypeId) (x y : Operand) (A B : List UInt8) (w : World) : (eqGuard BinOp.neq t x y (.string (jk A)) (.string (jk B))).run Tryz.prog w = .ok () w := by first | rfl | simp [go_sem, eqGuard]
theorem qM {o : Oper} {a : Act} {C : World → Prop} {K : Act → Prop} {x y : Operand} (h : o.op = .binOp .neq 9 x y 9) (A B : List UInt8) (hx : a.eval x = .string (jk A)) (hy : a.eval y = .string (jk B)) (z : Bool) (hz : (!decide (A = B)) = z) (hk : K (a.put o.dst (.bool z))) : o.quiet Tryz.prog a C K := by
 subst hz
 exact ⟨_, fun w hw => by unfold Oper.quietAt execOp; simp only [h, hx, hy, zcC, zcD A B w, Sem.run_bind, Sem.run_pure, Result.andThen_ok]; exact ⟨rfl, rfl⟩, hk⟩
set_option maxHeartbeats 8000000 in
theorem JQ (l : List UInt8) (S : qS) (E : Int) (w : World) (hl : l.length ≤ 100000000) (e : xQ l = (S, E)) : Calls Tryz.prog 34 #[.string (jk l)] w fun e w' => ∃ v, e = .returned (.tuple #[.agg (qR v S), .int .i64 E]) ∧ j9 qQ v S.pts w' ∧ Below w.heap.size w w' := by
 have B := Below.refl w.heap.size w
 have HE := Lib.hid e
 clear e
 obtain ⟨⟨x0, i0, f0⟩, hx0⟩ : ∃ t, kA l (0, false) 1 = t := ⟨_, rfl⟩
 have hn0 : beN x0 = xV l := by rw [← zcs, hx0]
 have h00 : QH l 0 = ([], (i0, f0)) := by show ([], (kA l (0, false) 1).2) = _; rw [hx0]
 have HX0 := Lib.hid hx0
 have H00 := Lib.hid h00
 clear hx0 h00
 have hpn : xV l < 256 := by have := vh (qw l 0 1); unfold xV; exact Nat.lt_of_lt_of_le this (by rw [show (256 : Nat) = 256 ^ 1 from rfl]; exact Nat.pow_le_pow_right (by omega) (by unfold qw; rw [List.length_take]; omega))
 obtain ⟨n, hn⟩ : ∃ n, xV l = n := ⟨_, rfl⟩
 rw [hn] at hn0 hpn
 have HN := Lib.hid hn
 clear hn
 go_enter Tryz.func34, Tryz.ntmps34
 go_upto_region 0 with fail
 refine wp_region_lit ?_
 (refine zu (t := 30) rfl _ (zW _ _ rfl) (z6 B ?_); clear B; intro b_r2 wn zb zd r2 za zf zk B; simp only [zn])
 refine zy 1 ?_
 refine wpList_nil ?_
 have k1 : w.heap.size ≤ b_r2 := by omega
 have hr2 := r2.lt
 go_upto_region 1 with fail
 refine wp_region_lit ?_
 refine zy 1 ?_
 refine qT (enters_of Tryz.func86 (by kernel_rfl) rfl) (c := zc6 l _) (h := ?_)
 rintro e wn ⟨b_rd, hb_rd, rfl, rd, za⟩
 have zf := B.size
 have zg := za.size
 replace B := B.trans (za.mono B.size)
 (try replace r2 := r2.below za)
 refine ⟨_, rfl, ?_⟩
 simp only [zn]
 refine zy 1 ?_
 refine wpList_nil ?_
 have k2 : b_r2 < b_rd := by omega
 have hrd := rd.lt
 go_upto_region 2 with fail
 refine wp_region_lit ?_
 (refine zu (t := 30) rfl _ (zW _ _ rfl) (z6 B ?_); clear B; intro b_t5 wn zb zd t5 za zf zk B; (try have zh := r2.lt); (try replace r2 := r2.below (za.mono zb)); (try have zh := rd.lt); (try replace rd := rd.below (za.mono zb)); simp only [zn])
 refine wpList_nil ?_
 have k3 : b_rd < b_t5 := by omega
 have ht5 := t5.lt
 obtain ⟨b1, hb1⟩ : ∃ n, n = wn.heap.size := ⟨_, rfl⟩
 have k4 : b_t5 < b1 := by omega
 have k5 : b1 ≤ wn.heap.size := by omega
 clear hb1 hr2 hrd ht5
 have od : qE qQ b1 (.slice none 0 0) [] wn := qE.nil b1 wn
 replace t5 : zJ 30 _ b_t5 (qR (.slice none 0 0) Z8) := t5
 go_upto_region 3 with fail
 refine wp_region_lit ?_
 refine zy 1 ?_
 refine qT (enters_of Tryz.func87 (by kernel_rfl) rfl) (c := JO l 0 false b_rd x0 i0 f0 _ rd hl (Nat.zero_le _) HX0.out) (h := ?_)
 rintro e wn ⟨rfl, rd2, ze⟩
 have zf := B.size
 have zg := ze.size
 replace B := qV.below B ze (by omega) B.size
 replace r2 := r2.of_eq (ze.block _ r2.lt (by omega))
 replace t5 := t5.of_eq (ze.block _ t5.lt (by omega))
 replace od := od.chg ze (by omega)
 clear rd
 have rd := rd2
 clear rd2
 refine ⟨_, rfl, ?_⟩
 simp only [zn]
 refine zy 1 ?_
 refine wpList_nil ?_
 rw [hn0]
 have k6 : b1 ≤ wn.heap.size := by omega
 clear k5
 go_wp2
 go_loopw [6, 7, 13] (fun _ _ iv wr => ∃ (k i : Nat) (fl : Bool) (P : List Sp) (ap : Option Addr) (cp : Nat), k ≤ n ∧ iv = .int .i64 (k : Int) ∧ Hid (QH l k = (P, (i, fl))) ∧ Below w.heap.size w wr ∧ b1 ≤ wr.heap.size ∧ zJ 180 wr b_rd (Jd l i fl) ∧ zJ 30 wr b_r2 #[.slice none 0 0, .int .i64 0, .int .i64 0, .int .u8 0, .int .u8 0, .int .u8 0, .int .u8 0, .bool false, .int .i64 0] ∧ zJ 30 wr b_t5 (qR (.slice ap P.length cp) Z8) ∧ qE qQ b1 (.slice ap P.length cp) P wr) (fun _ _ iv _ => (n - intOf iv).toNat)
 case atStart => exact ⟨0, i0, f0, [], none, 0, by omega, rfl, H00, B, k6, rd, r2, t5, od⟩
 case round =>
  clear B k6 rd r2 t5 od HX0 H00; obtain ⟨k, i, fl, P, ap, cp, hk, rfl, HK, B, k6, rd, r2, t5, od⟩ := hrel; have hPn : P.length = k := by have := We l k; rw [HK.out] at this; exact this
  have hi := zcr l k; rw [HK.out] at hi; simp only at hi; by_cases hkn : k < n
  ·have q1 : decide ((k : Int) < (n : Int)) = true := decide_eq_true (by omega)
   have q2 : decide (k < n) = true := decide_eq_true hkn; have hst : QH l (k + 1) = (P ++ [(KX l (i, fl)).1], (KX l (i, fl)).2) := by
    show ((QH l k).1 ++ [(KX l (QH l k).2).1], (KX l (QH l k).2).2) = _
    rw [HK.out]
   unfold KX at hst; obtain ⟨⟨xa, ia, fa⟩, hxa⟩ : ∃ t, kA l (i, fl) 3 = t := ⟨_, rfl⟩; have la := kH (m := 3) (st := (i, fl)) hi; have na := JZ (l := l) (st := (i, fl)) (m := 3) (by omega); rw [hxa] at hst la na; simp only at hst la na; obtain ⟨⟨xb, ib, fb⟩, hxb⟩ : ∃ t, kA l (ia, fa) 3 = t := ⟨_, rfl⟩; have lb := kH (m := 3) (st := (ia, fa)) la; have nb := JZ (l := l) (st := (ia, fa)) (m := 3) (by omega); rw [hxb] at hst lb nb; simp only at hst lb nb; obtain ⟨⟨xc, ic, fc⟩, hxc⟩ : ∃ t, kA l (ib, fb) 1 = t := ⟨_, rfl⟩; have nc := JZ (l := l) (st := (ib, fb)) (m := 1) (by omega); rw [hxc] at hst nc; simp only at hst nc; have HA := Lib.hid hxa; have HB := Lib.hid hxb; have HC := Lib.hid hxc; have HST := Lib.hid hst; clear hxa hxb hxc hst HK; obtain ⟨na_, hna⟩ : ∃ n, beN xa = n := ⟨_, rfl⟩; obtain ⟨nb_, hnb⟩ : ∃ n, beN xb = n := ⟨_, rfl⟩; obtain ⟨nc_, hnc⟩ : ∃ n, beN xc = n := ⟨_, rfl⟩
   rw [hna] at na; rw [hnb] at nb; rw [hnc] at nc; rw [hna, hnb, hnc] at HST; go_upto_region 4 with fail
   refine wp_region_lit ?_; refine zy 1 ?_; refine wpList_nil ?_; go_upto_region 5 with fail
   refine wp_region_lit ?_; refine zy 1 ?_; refine qT (enters_of Tryz.func87 (by kernel_rfl) rfl) (c := JP l i fl b_rd xa ia fa _ rd hl hi HA.out) (h := ?_); rintro e wn ⟨rfl, rd2, ze⟩; have zf := B.size; have zg := ze.size; replace B := qV.below B ze (by omega) B.size; replace r2 := r2.of_eq (ze.block _ r2.lt (by omega)); replace t5 := t5.of_eq (ze.block _ t5.lt (by omega)); replace od := od.chg ze (by omega); clear rd; have rd := rd2; clear rd2; rw [hna]; refine ⟨_, rfl, ?_⟩; simp only [zn]; refine zy 2 ?_; refine qT (enters_of Tryz.func87 (by kernel_rfl) rfl) (c := JP l ia fa b_rd xb ib fb _ rd hl la HB.out) (h := ?_); rintro e wn ⟨rfl, rd2, ze⟩; have zf := B.size; have zg := ze.size; replace B := qV.below B ze (by omega) B.size; replace r2 := r2.of_eq (ze.block _ r2.lt (by omega)); replace t5 := t5.of_eq (ze.block _ t5.lt (by omega))
   replace od := od.chg ze (by omega); clear rd; have rd := rd2; clear rd2; rw [hnb]; refine ⟨_, rfl, ?_⟩; simp only [zn]; refine zy 2 ?_; refine qT (enters_of Tryz.func87 (by kernel_rfl) rfl) (c := JO l ib fb b_rd xc ic fc _ rd hl lb HC.out) (h := ?_); rintro e wn ⟨rfl, rd2, ze⟩; have zf := B.size; have zg := ze.size; replace B := qV.below B ze (by omega) B.size; replace r2 := r2.of_eq (ze.block _ r2.lt (by omega)); replace t5 := t5.of_eq (ze.block _ t5.lt (by omega)); replace od := od.chg ze (by omega); clear rd; have rd := rd2; clear rd2; rw [hnc]; refine ⟨_, rfl, ?_⟩; simp only [zn]; refine zy 1 ?_; obtain ⟨wM, hwM⟩ : ∃ z, z = wn := ⟨_, rfl⟩; subst hwM; have HOD := Lib.hid od; have BM := B; have hws := BM.size; have kM : b1 ≤ wM.heap.size := by omega
   have B := Below.refl wM.heap.size wM; have hlr2 := r2.lt; have hlt5 := t5.lt; have hlrd := rd.lt; clear od
   (refine zu (t := 43) rfl _ (xB _ _ rfl) (z6 B ?_); clear B; intro b_t6 wn zb zd t6 za zf zk B; (try have zh := r2.lt); (try replace r2 := r2.below (za.mono zb)); (try have zh := t5.lt); (try replace t5 := t5.below (za.mono zb)); (try have zh := rd.lt); (try replace rd := rd.below (za.mono zb)); simp only [zn])
   (refine zq (t := 43) rfl _ _ rfl _ rfl _ rfl t6 (by kernel_rfl) rfl (by simp [qQ, Value.oneCell']) (qG B (by omega) ?_); clear t6 B; intro wn t6 ze zf zg B; (try replace r2 := r2.of_eq (ze.block _ r2.lt (by omega))); (try replace t5 := t5.of_eq (ze.block _ t5.lt (by omega))); (try replace rd := rd.of_eq (ze.block _ rd.lt (by omega))); simp only [zn])
   refine wpList_nil ?_; have od := HOD.out.below B; have B0 := BM.trans (B.mono hws); have k7 : b1 ≤ wn.heap.size := Nat.le_trans kM B.size; clear B; have B := B0; clear B0 BM; obtain ⟨p, hp⟩ : ∃ p : Sp, p = ⟨(na_ : Int) - 1048576, (nb_ : Int) - 1048576, (nc_ : Int)⟩ := ⟨_, rfl⟩; have t6p : zJ 43 wn b_t6 (qQ.enc p) := by rw [hp]; exact t6
   rw [← hp] at HST; clear t6 hp; have t6 := t6p; clear t6p; go_upto_region 6 with fail
   refine wp_region_lit ?_; refine zy 3 ?_
   (refine wu (E := qQ) rfl _ rfl (p) rfl (by omega) (z6 B ?_); clear B; intro b_s1 wn zb zd s1 za zf zk B; replace od := od.below (za.mono zb); (try have zh := r2.lt); (try replace r2 := r2.below (za.mono zb)); (try have zh := t5.lt); (try replace t5 := t5.below (za.mono zb)); (try have zh := rd.lt); (try replace rd := rd.below (za.mono zb)); simp only [zn])
   (at_builtin; refine yp rfl _ _ rfl _ _ rfl rfl od ((j9.one s1)) (by simp only [List.length_append, List.length_cons, List.length_nil]; omega) (by omega) ?_; intro v_od wn ht za; have zf := B.size; have hbz := za.size; replace B := B.trans (za.mono (by omega)); clear od; (try replace r2 := r2.of_eq (za.block _ (by omega))); (try replace t5 := t5.of_eq (za.block _ (by omega))); (try replace rd := rd.of_eq (za.block _ (by omega))); have od := ht; clear ht; obtain ⟨a_od, c_od, hv, hco⟩ := od.len; (try simp only [List.length_append, List.length_cons, List.length_nil, Nat.zero_add] at hv hco); subst hv; simp only [zn])
   refine zy 1 ?_; refine wpList_nil ?_; go_upto_region 7 with fail
   refine wp_region_lit ?_; refine zy 2 ?_
   (refine xw (t := 30) rfl _ _ rfl _ 0 rfl _ _ _ rfl t5 rfl (qG B (by omega) ?_); clear t5 B; intro wn t5 ze zf zg B; (try replace r2 := r2.of_eq (ze.block _ r2.lt (by omega))); (try replace rd := rd.of_eq (ze.block _ rd.lt (by omega))); replace od := od.chg ze (by omega); simp only [zn])
   refine wpList_nil ?_; go_upto_region 8 with fail
   refine wp_region_lit ?_; refine zy 2 ?_; refine wpList_nil ?_; go_wp2; go_roundw
   case rel => exact ⟨k + 1, ic, fc, P ++ [p], _, _, by omega, by go_num, HST, B, by omega, rd, r2, by rw [List.length_append]; exact t5, by rw [List.length_append]; exact od⟩
   case measure => simp [intOf]; omega
  ·have q1 : decide ((k : Int) < (n : Int)) = false := decide_eq_false (by omega)
   have q2 : decide (k < n) = false := decide_eq_false hkn; have hke : k = n := by omega
   subst hke; obtain ⟨a, b, c, d, e, ⟨i1, f1⟩, ⟨i2, f2⟩, ⟨i3, f3⟩, ⟨i4, f4⟩, ⟨i5, f5⟩, TL⟩ := zem l (i, fl); obtain ⟨m1, m2, m3, m4⟩ := TL.le hi; simp only at m1 m2 m3 m4; have HT1 := Lib.hid TL.h1; have HT2 := Lib.hid TL.h2; have HT3 := Lib.hid TL.h3; have HT4 := Lib.hid TL.h4; have HT5 := Lib.hid TL.h5; have HTL := Lib.hid (show Tl l (QH l k).2 a b c d e (i1, f1) (i2, f2) (i3, f3) (i4, f4) (i5, f5) from by rw [HK.out]; exact TL)
   clear TL; obtain ⟨na_, hna⟩ : ∃ n, beN a = n := ⟨_, rfl⟩; obtain ⟨nb_, hnb⟩ : ∃ n, beN b = n := ⟨_, rfl⟩; obtain ⟨nd_, hnd⟩ : ∃ n, beN d = n := ⟨_, rfl⟩; obtain ⟨ne_, hne⟩ : ∃ n, beN e = n := ⟨_, rfl⟩; have qd : ((nd_ : Int) == 1) = decide (nd_ = 1) := by
    by_cases h : nd_ = 1
    ·subst h; rfl
    ·rw [decide_eq_false h, beq_eq_false_iff_ne]; omega
   go_upto_region 4 with fail
   refine wp_region_lit ?_; refine zy 1 ?_; refine wpList_nil ?_; go_upto_region 9 with fail
   refine wp_region_lit ?_; refine zy 1 ?_; refine qT (enters_of Tryz.func87 (by kernel_rfl) rfl) (c := Vl l i fl b_rd a i1 f1 _ rd hl hi HT1.out) (h := ?_); rintro e wn ⟨rfl, rd2, ze⟩; have zf := B.size; have zg := ze.size; replace B := qV.below B ze (by omega) B.size; replace r2 := r2.of_eq (ze.block _ r2.lt (by omega)); replace t5 := t5.of_eq (ze.block _ t5.lt (by omega)); replace od := od.chg ze (by omega); clear rd; have rd := rd2; clear rd2; rw [hna]; refine ⟨_, rfl, ?_⟩; simp only [zn]; refine zy 1 ?_; refine qT (enters_of Tryz.func87 (by kernel_rfl) rfl) (c := Vl l i1 f1 b_rd b i2 f2 _ rd hl m1 HT2.out) (h := ?_); rintro e wn ⟨rfl, rd2, ze⟩; have zf := B.size; have zg := ze.size; replace B := qV.below B ze (by omega) B.size; replace r2 := r2.of_eq (ze.block _ r2.lt (by omega)); replace t5 := t5.of_eq (ze.block _ t5.lt (by omega))
   replace od := od.chg ze (by omega); clear rd; have rd := rd2; clear rd2; rw [hnb]; refine ⟨_, rfl, ?_⟩; simp only [zn]; refine zy 1 ?_
   (refine jn (t := 30) rfl _ _ rfl _ 1 rfl _ rfl t5 rfl (qG B (by omega) ?_); clear t5 B; intro wn t5 ze zf zg B; replace od := od.chg ze (by omega); (try replace r2 := r2.of_eq (ze.block _ r2.lt (by omega))); (try replace rd := rd.of_eq (ze.block _ rd.lt (by omega))); simp only [zn])
   refine zy 1 ?_
   (refine jn (t := 30) rfl _ _ rfl _ 2 rfl _ rfl t5 rfl (qG B (by omega) ?_); clear t5 B; intro wn t5 ze zf zg B; replace od := od.chg ze (by omega); (try replace r2 := r2.of_eq (ze.block _ r2.lt (by omega))); (try replace rd := rd.of_eq (ze.block _ rd.lt (by omega))); simp only [zn])
   refine wpList_nil ?_; replace t5 : zJ 30 _ b_t5 (qR (.slice ap P.length cp) ⟨P, (na_ : Int), (nb_ : Int), Px.zero, false, 0⟩) := t5; go_upto_region 10 with fail
   refine wp_region_lit ?_; refine zy 1 ?_; refine qT (enters_of Tryz.func88 (by kernel_rfl) rfl) (c := ZQ l i2 f2 b_rd 4 4 c i3 f3 _ rd hl m2 (by omega) rfl HT3.out) (h := ?_); rintro e wn ⟨rfl, rd2, ze⟩; have zf := B.size; have zg := ze.size; replace B := qV.below B ze (by omega) B.size; replace r2 := r2.of_eq (ze.block _ r2.lt (by omega)); replace t5 := t5.of_eq (ze.block _ t5.lt (by omega)); replace od := od.chg ze (by omega); clear rd; have rd := rd2; clear rd2; refine ⟨_, rfl, ?_⟩; simp only [zn]; refine zy 1 ?_; refine wpList_nil ?_; go_upto_region 11 with fail
   refine wp_region_lit ?_; refine zy 1 ?_; refine qT (enters_of Tryz.func87 (by kernel_rfl) rfl) (c := JO l i3 f3 b_rd d i4 f4 _ rd hl m3 HT4.out) (h := ?_); rintro e wn ⟨rfl, rd2, ze⟩; have zf := B.size; have zg := ze.size; replace B := qV.below B ze (by omega) B.size; replace r2 := r2.of_eq (ze.block _ r2.lt (by omega)); replace t5 := t5.of_eq (ze.block _ t5.lt (by omega)); replace od := od.chg ze (by omega); clear rd; have rd := rd2; clear rd2; rw [hnd]; refine ⟨_, rfl, ?_⟩; simp only [zn]; refine zy 2 ?_
   (refine kD (t := 30) rfl _ _ rfl _ 7 rfl _ rfl t5 rfl (qG B (by omega) ?_); clear t5 B; intro wn t5 ze zf zg B; replace od := od.chg ze (by omega); (try replace r2 := r2.of_eq (ze.block _ r2.lt (by omega))); (try replace rd := rd.of_eq (ze.block _ rd.lt (by omega))); simp only [zn])
   refine wpList_nil ?_; replace t5 : zJ 30 _ b_t5 (qR (.slice ap P.length cp) ⟨P, (na_ : Int), (nb_ : Int), Px.zero, decide (nd_ = 1), 0⟩) := t5; go_upto_region 12 with fail
   refine wp_region_lit ?_; refine zy 1 ?_; refine qT (enters_of Tryz.func87 (by kernel_rfl) rfl) (c := JP l i4 f4 b_rd e i5 f5 _ rd hl m4 HT5.out) (h := ?_); rintro e wn ⟨rfl, rd2, ze⟩; have zf := B.size; have zg := ze.size; replace B := qV.below B ze (by omega) B.size; replace r2 := r2.of_eq (ze.block _ r2.lt (by omega)); replace t5 := t5.of_eq (ze.block _ t5.lt (by omega)); replace od := od.chg ze (by omega); clear rd; have rd := rd2; clear rd2; rw [hne]; refine ⟨_, rfl, ?_⟩; simp only [zn]; refine zy 1 ?_
   (refine jn (t := 30) rfl _ _ rfl _ 8 rfl _ rfl t5 rfl (qG B (by omega) ?_); clear t5 B; intro wn t5 ze zf zg B; replace od := od.chg ze (by omega); (try replace r2 := r2.of_eq (ze.block _ r2.lt (by omega))); (try replace rd := rd.of_eq (ze.block _ rd.lt (by omega))); simp only [zn])
   refine wpList_nil ?_; replace t5 : zJ 30 _ b_t5 (qR (.slice ap P.length cp) ⟨P, (na_ : Int), (nb_ : Int), Px.zero, decide (nd_ = 1), (ne_ : Int)⟩) := t5; go_upto_region 13 with fail
   refine wp_region_lit ?_; refine zy 1 ?_; refine qT (enters_of Tryz.func89 (by kernel_rfl) rfl) (c := WD l i5 f5 b_rd _ rd) (h := ?_); rintro e wn ⟨rfl, za⟩; have zf := B.size; have zg := za.size; replace B := B.trans (za.mono B.size)
   (try replace r2 := r2.below za)
   (try replace t5 := t5.below za)
   (try replace od := od.below za)
   refine ⟨_, rfl, ?_⟩; simp only [zn]; refine wpList_nil ?_; by_cases hsh : l.length < 13 + 7 * k
   ·have h5 : f5 = true := HTL.out.bad hsh
    subst h5; have hS := HE.out; rw [vq (by rw [HN.out]; exact hsh)] at hS
    injection hS with e1 e2
    subst e1 e2; clear od; go_upto_region 14 with fail
    refine wp_region_lit ?_
    (refine zV rfl (.agg #[.slice none 0 0, .int .i64 0, .int .i64 0, .int .u8 0, .int .u8 0, .int .u8 0, .int .u8 0, .bool false, .int .i64 0]) (by kernel_rfl) ?_; simp only [zn])
    (refine zq (t := 30) rfl _ _ rfl _ rfl _ rfl r2 (by kernel_rfl) rfl (by simp [qR, Value.oneCell']) (qG B (by omega) ?_); clear r2 B; intro wn r2 ze zf zg B; (try replace t5 := t5.of_eq (ze.block _ t5.lt (by omega))); simp only [zn])
    refine zy 1 ?_; refine wpList_nil ?_; first | (refine bodyPost_ret (zQ (t := 30) rfl _ _ (b_r2) rfl _ rfl r2 Tryz.isAgg30 (by kernel_rfl)) rfl ?_) | (go_step; refine bodyPost_ret (zQ (t := 30) rfl _ _ (b_r2) rfl _ rfl r2 Tryz.isAgg30 (by kernel_rfl)) rfl ?_) | (go_step; go_step; refine bodyPost_ret (zQ (t := 30) rfl _ _ (b_r2) rfl _ rfl r2 Tryz.isAgg30 (by kernel_rfl)) rfl ?_) | (go_step; go_step; go_step; refine bodyPost_ret (zQ (t := 30) rfl _ _ (b_r2) rfl _ rfl r2 Tryz.isAgg30 (by kernel_rfl)) rfl ?_) | (go_step; go_step; go_step; go_step; refine bodyPost_ret (zQ (t := 30) rfl _ _ (b_r2) rfl _ rfl r2 Tryz.isAgg30 (by kernel_rfl)) rfl ?_) | (go_step; go_step; go_step; go_step; go_step; refine bodyPost_ret (zQ (t := 30) rfl _ _ (b_r2) rfl _ rfl r2 Tryz.isAgg30 (by kernel_rfl)) rfl ?_) | (go_step; go_step; go_step; go_step; go_step; go_step; refine bodyPost_ret (zQ (t := 30) rfl _ _ (b_r2) rfl _ rfl r2 Tryz.isAgg30 (by kernel_rfl)) rfl ?_) | (go_step; go_step; go_step; go_step; go_step; go_step; go_step; refine bodyPost_ret (zQ (t := 30) rfl _ _ (b_r2) rfl _ rfl r2 Tryz.isAgg30 (by kernel_rfl)) rfl ?_)
    exact ⟨.slice none 0 0, rfl, (qE.nil (E := qQ) 0 wn).rs, B⟩
   ·obtain ⟨h5, ea, eb, ec, ed, ee⟩ := HTL.out.good (by omega)
    simp only at h5; subst h5; have hcl : c.length = 4 := by rw [ec]; exact yL (by omega)
    obtain ⟨g0, hg0⟩ : ∃ n, (c.getD 0 0).toNat = n := ⟨_, rfl⟩; obtain ⟨g1, hg1⟩ : ∃ n, (c.getD 1 0).toNat = n := ⟨_, rfl⟩; obtain ⟨g2, hg2⟩ : ∃ n, (c.getD 2 0).toNat = n := ⟨_, rfl⟩; obtain ⟨g3, hg3⟩ : ∃ n, (c.getD 3 0).toNat = n := ⟨_, rfl⟩; have hcc : ∀ j, j < 4 → c.getD j 0 = l.getD (5 + 7 * k + j) 0 := fun j hj => by
     rw [List.getD_eq_getElem?_getD, List.getD_eq_getElem?_getD, ec, XE hj]
    have hPar : kt l = ⟨P, (na_ : Int), (nb_ : Int), ⟨(g0 : Int), (g1 : Int), (g2 : Int), (g3 : Int)⟩, decide (nd_ = 1), (ne_ : Int)⟩ := by
     have hk := HK.out; rw [KW l k (by omega)] at hk
     injection hk with hP _
     unfold kt; rw [HN.out]; unfold pkS Qz; rw [hP, ← ea, ← eb, ← ed, ← ee, hna, hnb, hnd, hne, ← hcc 1 (by omega), ← hcc 2 (by omega), ← hcc 3 (by omega), hg1, hg2, hg3]; have h0 := hcc 0 (by omega); rw [Nat.add_zero] at h0; rw [← h0, hg0]
    have okC : (⟨(g0 : Int), (g1 : Int), (g2 : Int), (g3 : Int)⟩ : Px).ok := by
     have := V8 l (5 + 7 * xV l); have e9 : (kt l).col = Qz l (5 + 7 * xV l) := rfl; rw [← e9, hPar] at this; exact this
    have HPAR := Lib.hid hPar; have OKC := Lib.hid okC; have HG0 := Lib.hid hg0; have HG1 := Lib.hid hg1; have HG2 := Lib.hid hg2; have HG3 := Lib.hid hg3; clear hPar okC hg0 hg1 hg2 hg3 ea eb ec ed ee hcc; have hPs : P.length ≤ 255 := by omega
    go_upto_region 15 with fail
    try have lx_r2 := r2.lt
    try have lx_t5 := t5.lt
    try have lx_od := od.lt
    refine zF 10 [] (by kernel_rfl) (by kernel_rfl) (by kernel_rfl) ?_
    rotate_left 0
    simp only [jK, Nat.reduceAdd]; refine xM 10 ?_; repeat (first | go_big_quiet_skip | (go_big_quiet_want; first | ((first | refine zM rfl c rfl _ rfl 0 g0 (by omega) (by first | rfl | omega) HG0.out ?_ | refine zM rfl c rfl _ rfl 1 g1 (by omega) (by first | rfl | omega) HG1.out ?_ | refine zM rfl c rfl _ rfl 2 g2 (by omega) (by first | rfl | omega) HG2.out ?_ | refine zM rfl c rfl _ rfl 3 g3 (by omega) (by first | rfl | omega) HG3.out ?_ | refine qB ?_ | refine qC ?_); simp only [zn]; go_big_quiet_on) | (go_big_quiet_op; go_big_quiet_on)))
    refine wpQuiet_nil ?_; refine zY ?_; intro wn za hE; have zf := B.size; have zg := za.size; replace B := B.trans (za.mono B.size)
    (try replace r2 := r2.below za)
    (try replace t5 := t5.below za)
    (try replace od := od.below za)
    clear hE; try simp only [List.drop_succ_cons, List.drop_zero]
    (refine u4 rfl _ _ rfl _ rfl ⟨(g0 : Int), (g1 : Int), (g2 : Int), (g3 : Int)⟩ rfl t5 (qG B (by omega) ?_); clear t5 B; intro wn t5 ze zf zg B; replace od := od.chg ze (by omega); (try replace r2 := r2.of_eq (ze.block _ r2.lt (by omega))); simp only [zn])
    refine wpList_nil ?_; refine zN.normal ?_; obtain ⟨s1, hs1⟩ : ∃ s : qS, s = ⟨P, (na_ : Int), (nb_ : Int), ⟨(g0 : Int), (g1 : Int), (g2 : Int), (g3 : Int)⟩, decide (nd_ = 1), (ne_ : Int)⟩ := ⟨_, rfl⟩; replace t5 : zJ 30 wn b_t5 (qR (.slice ap P.length cp) s1) := by rw [hs1]; exact t5
    have hsp : s1.pts = P := by rw [hs1]
    have hsc : s1.col.ok := by rw [hs1]; exact OKC.out
    rw [← hs1] at HPAR; have rsP : j9 qQ (.slice ap P.length cp) s1.pts wn := by rw [hsp]; exact od.rs
    have hsn : s1.pts.length ≤ 17592186044416 := by rw [hsp]; omega
    obtain ⟨Lb, hLb⟩ : ∃ b, jh s1 = b := ⟨_, rfl⟩; have HLB := Lib.hid hLb; have HSC := Lib.hid hsc; clear hs1 hLb hsc; have hpl : ¬ l.length < 13 + 7 * xV l := by rw [HN.out]; exact hsh
    by_cases heq : Lb = l
    ·have hz : (!decide (Lb = l)) = false := by rw [decide_eq_true heq]; rfl
     have hS := HE.out; rw [Wf hpl (by rw [HPAR.out, HLB.out]; exact heq), HPAR.out] at hS
     injection hS with e1 e2
     subst e1 e2; go_upto_region 16 with fail
     refine wp_region_lit ?_; refine jp 1 ?_
     repeat (first | go_big_quiet_skip | (go_big_quiet_want; first | ((first | refine qM rfl Lb l rfl rfl false hz ?_ | refine qB ?_ | refine qC ?_); simp only [zn]; go_big_quiet_on) | (go_big_quiet_op; go_big_quiet_on)))
     refine wpQuiet_nil ?_; refine qT (enters_of Tryz.func33 (by kernel_rfl) rfl) (c := kI _ s1 Lb _ rsP hsn HSC.out HLB.out) (h := ?_); rintro e wn ⟨rfl, za⟩; have zf := B.size; have zg := za.size; replace B := B.trans (za.mono B.size)
     (try replace r2 := r2.below za)
     (try replace t5 := t5.below za)
     (try replace rsP := rsP.below za)
     (try replace od := od.below za)
     refine ⟨_, rfl, ?_⟩; simp only [zn]; refine jp 2 ?_; repeat (first | go_big_quiet_skip | (go_big_quiet_want; first | ((first | refine qM rfl Lb l rfl rfl false hz ?_ | refine qB ?_ | refine qC ?_); simp only [zn]; go_big_quiet_on) | (go_big_quiet_op; go_big_quiet_on)))
     refine wpQuiet_nil ?_; refine wpList_nil ?_; have HODP := Lib.hid od; have hlr2 := r2.lt; go_upto_region 18 with fail
     refine wp_region_lit ?_; refine zy 1 ?_
     (refine zq (t := 30) rfl _ _ rfl _ rfl _ rfl r2 (by kernel_rfl) rfl (by simp [qR, Value.oneCell']) (qG B (by omega) ?_); clear r2 B; intro wn r2 ze zf zg B; replace rsP : j9 qQ (.slice ap P.length cp) s1.pts wn := (by rw [hsp]; exact (qE.chg HODP.out ze (by omega)).rs); (try replace t5 := t5.of_eq (ze.block _ t5.lt (by omega))); simp only [zn])
     refine zy 1 ?_; refine wpList_nil ?_; first | (refine bodyPost_ret (zQ (t := 30) rfl _ _ (b_r2) rfl _ rfl r2 Tryz.isAgg30 (by kernel_rfl)) rfl ?_) | (go_step; refine bodyPost_ret (zQ (t := 30) rfl _ _ (b_r2) rfl _ rfl r2 Tryz.isAgg30 (by kernel_rfl)) rfl ?_) | (go_step; go_step; refine bodyPost_ret (zQ (t := 30) rfl _ _ (b_r2) rfl _ rfl r2 Tryz.isAgg30 (by kernel_rfl)) rfl ?_) | (go_step; go_step; go_step; refine bodyPost_ret (zQ (t := 30) rfl _ _ (b_r2) rfl _ rfl r2 Tryz.isAgg30 (by kernel_rfl)) rfl ?_) | (go_step; go_step; go_step; go_step; refine bodyPost_ret (zQ (t := 30) rfl _ _ (b_r2) rfl _ rfl r2 Tryz.isAgg30 (by kernel_rfl)) rfl ?_) | (go_step; go_step; go_step; go_step; go_step; refine bodyPost_ret (zQ (t := 30) rfl _ _ (b_r2) rfl _ rfl r2 Tryz.isAgg30 (by kernel_rfl)) rfl ?_) | (go_step; go_step; go_step; go_step; go_step; go_step; refine bodyPost_ret (zQ (t := 30) rfl _ _ (b_r2) rfl _ rfl r2 Tryz.isAgg30 (by kernel_rfl)) rfl ?_) | (go_step; go_step; go_step; go_step; go_step; go_step; go_step; refine bodyPost_ret (zQ (t := 30) rfl _ _ (b_r2) rfl _ rfl r2 Tryz.isAgg30 (by kernel_rfl)) rfl ?_)
     exact ⟨_, rfl, rsP, B⟩
    ·have hz : (!decide (Lb = l)) = true := by rw [decide_eq_false heq]; rfl
     have hS := HE.out; rw [wP hpl (by rw [HPAR.out, HLB.out]; exact heq)] at hS
     injection hS with e1 e2
     subst e1 e2; go_upto_region 16 with fail
     refine wp_region_lit ?_; refine jp 1 ?_
     repeat (first | go_big_quiet_skip | (go_big_quiet_want; first | ((first | refine qM rfl Lb l rfl rfl true hz ?_ | refine qB ?_ | refine qC ?_); simp only [zn]; go_big_quiet_on) | (go_big_quiet_op; go_big_quiet_on)))
     refine wpQuiet_nil ?_; refine qT (enters_of Tryz.func33 (by kernel_rfl) rfl) (c := kI _ s1 Lb _ rsP hsn HSC.out HLB.out) (h := ?_); rintro e wn ⟨rfl, za⟩; have zf := B.size; have zg := za.size; replace B := B.trans (za.mono B.size)
     (try replace r2 := r2.below za)
     refine ⟨_, rfl, ?_⟩; simp only [zn]; refine jp 2 ?_; repeat (first | go_big_quiet_skip | (go_big_quiet_want; first | ((first | refine qM rfl Lb l rfl rfl true hz ?_ | refine qB ?_ | refine qC ?_); simp only [zn]; go_big_quiet_on) | (go_big_quiet_op; go_big_quiet_on)))
     refine wpQuiet_nil ?_; refine wpList_nil ?_; go_upto_region 17 with fail
     refine wp_region_lit ?_
     (refine zV rfl (.agg #[.slice none 0 0, .int .i64 0, .int .i64 0, .int .u8 0, .int .u8 0, .int .u8 0, .int .u8 0, .bool false, .int .i64 0]) (by kernel_rfl) ?_; simp only [zn])
     (refine zq (t := 30) rfl _ _ rfl _ rfl _ rfl r2 (by kernel_rfl) rfl (by simp [qR, Value.oneCell']) (qG B (by omega) ?_); clear r2 B; intro wn r2 ze zf zg B; simp only [zn])
     refine zy 1 ?_; refine wpList_nil ?_; first | (refine bodyPost_ret (zQ (t := 30) rfl _ _ (b_r2) rfl _ rfl r2 Tryz.isAgg30 (by kernel_rfl)) rfl ?_) | (go_step; refine bodyPost_ret (zQ (t := 30) rfl _ _ (b_r2) rfl _ rfl r2 Tryz.isAgg30 (by kernel_rfl)) rfl ?_) | (go_step; go_step; refine bodyPost_ret (zQ (t := 30) rfl _ _ (b_r2) rfl _ rfl r2 Tryz.isAgg30 (by kernel_rfl)) rfl ?_) | (go_step; go_step; go_step; refine bodyPost_ret (zQ (t := 30) rfl _ _ (b_r2) rfl _ rfl r2 Tryz.isAgg30 (by kernel_rfl)) rfl ?_) | (go_step; go_step; go_step; go_step; refine bodyPost_ret (zQ (t := 30) rfl _ _ (b_r2) rfl _ rfl r2 Tryz.isAgg30 (by kernel_rfl)) rfl ?_) | (go_step; go_step; go_step; go_step; go_step; refine bodyPost_ret (zQ (t := 30) rfl _ _ (b_r2) rfl _ rfl r2 Tryz.isAgg30 (by kernel_rfl)) rfl ?_) | (go_step; go_step; go_step; go_step; go_step; go_step; refine bodyPost_ret (zQ (t := 30) rfl _ _ (b_r2) rfl _ rfl r2 Tryz.isAgg30 (by kernel_rfl)) rfl ?_) | (go_step; go_step; go_step; go_step; go_step; go_step; go_step; refine bodyPost_ret (zQ (t := 30) rfl _ _ (b_r2) rfl _ rfl r2 Tryz.isAgg30 (by kernel_rfl)) rfl ?_)
     exact ⟨.slice none 0 0, rfl, (qE.nil (E := qQ) 0 wn).rs, B⟩
end Go.Proofs.YtepelndbbhdofaaGreatDoor
/- Contract of the reference's Split. -/
namespace Go.Proofs.YtepelndbbhdofaaGreatDoor
open Go.RowKit Go.Shelf Pl
set_option linter.unusedVariables false
set_option linter.unusedSimpArgs false
set_option maxRecDepth 20000
def prC (v : Value) (s : qS) (u : Value) (t : qS) (n : Int) : Array Value := #[v, .int .i64 s.rad, .int .i64 s.spa, .int .u8 s.col.r, .int .u8 s.col.g, .int .u8 s.col.b, .int .u8 s.col.a, .bool s.era, .int .i64 s.pha, u, .int .i64 t.rad, .int .i64 t.spa, .int .u8 t.col.r, .int .u8 t.col.g, .int .u8 t.col.b, .int .u8 t.col.a, .bool t.era, .int .i64 t.pha, .int .i64 n]
def qS.none : qS := ⟨[], 0, 0, Px.zero, false, 0⟩
/- Contracts of Shift of package stroke and of its reference. -/
/-! ### Points written in place in a row of the call's own -/
theorem Jy {f : Nat} (hf : f < 3) (v : Value) (a' : Sp) : ∀ (l : List Sp) (i : Nat), i < l.length → qQ.enc a' = (qQ.enc (jg l i)).setIfInBounds f v → (j5 qQ l).set (i * 3 + f) v = j5 qQ (l.set i a')
 | [], i, h, _ => absurd h (Nat.not_lt_zero _)
 | a :: r, 0, _, he => by
  have he : qQ.enc a' = (qQ.enc a).setIfInBounds f v := he; show ((qQ.enc a).toList ++ j5 qQ r).set (0 * 3 + f) v = (qQ.enc a').toList ++ j5 qQ r
  rw [List.set_append_left _ _ (by rw [Array.length_toList, qQ.size]; omega), he, Array.toList_setIfInBounds, Nat.zero_mul, Nat.zero_add]
 | a :: r, i + 1, h, he => by
  have he : qQ.enc a' = (qQ.enc (jg r i)).setIfInBounds f v := he; show ((qQ.enc a).toList ++ j5 qQ r).set ((i + 1) * 3 + f) v = (qQ.enc a).toList ++ j5 qQ (r.set i a')
  have hl : (qQ.enc a).toList.length = 3 := by rw [Array.length_toList, qQ.size]
  rw [List.set_append_right _ _ (by rw [hl]; omega), hl, ← Jy hf v a' r i (by simpa using h) he]
  congr 2
  omega
theorem qE.setF {B g n c : Nat} {l : List Sp} {w : World} (h : qE qQ B (.slice (some ⟨g, 0, none⟩) n c) l w) (hn : n = l.length) {i f : Nat} (hi : i < l.length) (hf : f < 3) (z : Int) (a' : Sp) (he : qQ.enc a' = (qQ.enc (jg l i)).setIfInBounds f (.int .i64 z)) : qE qQ B (.slice (some ⟨g, 0, none⟩) n c) (l.set i a') (w.setCell ⟨g, i * 3 + f, none⟩ (.int .i64 z)) := by
 obtain ⟨h1, h2⟩ := h
 rcases h2 with ⟨e, _⟩ | ⟨g', cap, cur, e, hg, hx, k1, k2, k3, k4⟩
 ·cases e
 ·injection e with e1 e2 e3
  injection e1 with e1
  injection e1 with e1 _ _
  subst e1 e3; have hr := Jy hf (.int .i64 z) a' l i hi he; refine ⟨by rw [← hr, List.length_set, h1]; simp, .inr ⟨g, c, cur.setIfInBounds (i * 3 + f) (.int .i64 z), by rw [List.length_set, hn], hg, heap_setCell_same w g (i * 3 + f) cur _ _ hx, by rw [List.length_set, ← hn, e2]; exact k1, k2, by rw [Array.size_setIfInBounds]; exact k3, ?_⟩⟩
  rw [← hr, ← k4, Array.toList_setIfInBounds, List.length_set, List.take_set]
theorem vz {ops : Array Oper} {rest : List Oper} {o : Oper} {a : Act} {w : World} {Q : Exit → Act → World → Prop} (hg : o.guard = none) (x y : Operand) (ho : o.op = .store 3 x y) (g j : Nat) (hx : a.eval x = .pointer (some ⟨g, j, none⟩)) (z : Int) (hy : a.eval y = .int .i64 z) {B n c : Nat} {l : List Sp} (h : qE qQ B (.slice (some ⟨g, 0, none⟩) n c) l w) (hn : n = l.length) (i f : Nat) (hi : i < l.length) (hf : f < 3) (hj : j = i * 3 + f) (a' : Sp) (he : qQ.enc a' = (qQ.enc (jg l i)).setIfInBounds f (.int .i64 z))
  (hk : ∀ w', qE qQ B (.slice (some ⟨g, 0, none⟩) n c) (l.set i a') w' → qV g w w' → w'.heap.size = w.heap.size → wpList Tryz.prog ops Q rest (a.put o.dst undef) w') : wpList Tryz.prog ops Q (o :: rest) a w := by
 subst hj
 obtain ⟨cs, hcs⟩ := h.block (b := g) rfl
 have f0 := (qe hcs).2 (i * 3 + f)
 have c0 : ∃ u, w.cell? ⟨g, i * 3 + f, none⟩ = some u := by
  obtain ⟨g2, o2, e2, rc⟩ := h.rs.at (by omega); obtain ⟨rfl, rfl⟩ : g = g2 ∧ 0 = o2 := by simpa using e2
  have h1 := rc.2 i (jg l i) (jc hi) f hf; rw [Nat.zero_add] at h1; have hs : f < (qQ.enc (jg l i)).size := by rw [qQ.size]; exact hf
  exact ⟨_, h1.trans (Array.getElem?_eq_getElem hs)⟩
 obtain ⟨u, c0⟩ := c0
 refine z8 hg x y ho (w.setCell ⟨g, i * 3 + f, none⟩ (.int .i64 z)) ?_ (hk _ (h.setF hn hi hf z a' he) ((qV.refl g w).setCell _) (by simp only [World.size_setCell]))
 rw [hx, hy]
 simp [go_sem, c0, f0]
def shK (X Y : Int) (l : List Sp) (k : Nat) : List Sp := (l.take k).map (shP X Y) ++ l.drop k
/- Contract of Paste of the reference. -/
end Go.Proofs.YtepelndbbhdofaaGreatDoor
/- Paste of both packages, whether the rectangle fits or not. -/
namespace Go.Proofs.YtepelndbbhdofaaGreatDoor
open Go.RowKit Go.Shelf Pl
set_option linter.unusedVariables false
set_option linter.unusedSimpArgs false
theorem za3 (v : Value) (ls : List TA) (c : Rc) (u : Value) (L : List Px) (w : World) (h : RS v ls w) (tk : jo ls) (hn : ls.length ≤ maxLen) (hu : j9 ku u L w) (hLn : L.length ≤ maxLen) (okL : Wv L) : Calls Tryz.prog 77 #[.agg #[v], .agg (xo c u)] w fun e w' => ∃ a cp, e = .returned (.tuple #[.agg #[.slice a (kU c L ls).length cp], .int .i64 (uP c L ls)]) ∧ RS (.slice a (kU c L ls).length cp) (kU c L ls) w' ∧ Below w.heap.size w w' := by
 obtain ⟨ad, cu, rfl, hcu⟩ := hu.len
 by_cases hV : jY c = true
 ·by_cases hA : (L.length : Int) = vC c
  ·have e1 : kU c L ls = if jG c = 0 then yI (xA c L (ji ls) (yJ c)) else [] := if_pos ⟨hV, hA⟩
   have e2 : uP c L ls = if jG c = 0 then kS (xA c L (ji ls) (yJ c)) else jG c := if_pos ⟨hV, hA⟩
   by_cases hF : jG c = 0
   ·rw [e1, e2, if_pos hF, if_pos hF]
    have hL : L.length = areaN c := by have := Qj (yt hF); omega
    exact Kn v ls c _ L w h tk hn hF hu hL okL
   ·rw [e1, e2, if_neg hF, if_neg hF]
    refine (XU v ls c ad L.length cu w h hLn hV hA.symm _ rfl hF).mono fun e w' ⟨he, hb⟩ => ?_
    exact ⟨none, 0, he, RS.nil _, hb⟩
  ·have e1 : kU c L ls = [] := if_neg (fun e => hA e.2)
   have e2 : uP c L ls = 1 := if_neg (fun e => hA e.2); rw [e1, e2]; refine (XW v ls c ad L.length cu w h hLn hV _ rfl hA).mono fun e w' ⟨he, hb⟩ => ?_
   exact ⟨none, 0, he, RS.nil _, hb⟩
 ·have e1 : kU c L ls = [] := if_neg (fun e => hV e.1)
  have e2 : uP c L ls = 1 := if_neg (fun e => hV e.1); rw [e1, e2]; refine (XV v ls c ad L.length cu w h hLn (by simpa using hV)).mono fun e w' ⟨he, hb⟩ => ?_
  exact ⟨none, 0, he, RS.nil _, hb⟩
theorem za4 (v : Value) (ls ks : List TA) (E : Int) (c : Rc) (u : Value) (L : List Px) (w : World) (h : RS v ls w) (tk : jo ls) (hn : ls.length ≤ maxLen) (hu : j9 ku u L w) (hLn : L.length ≤ maxLen) (okL : Wv L) (e1 : kU c L ls = ks) (e2 : uP c L ls = E) : Calls Tryz.prog 77 #[.agg #[v], .agg (xo c u)] w fun e w' => ∃ a cp, e = .returned (.tuple #[.agg #[.slice a ks.length cp], .int .i64 E]) ∧ RS (.slice a ks.length cp) ks w' ∧ Below w.heap.size w w' := by
 subst e1 e2
 exact za3 v ls c u L w h tk hn hu hLn okL
end Go.Proofs.YtepelndbbhdofaaGreatDoor
/- Painting strokes: regions that draw their order within a round; an image that the call owns; the two closures. -/
namespace Go.Proofs.YtepelndbbhdofaaGreatDoor
open Go.RowKit Go.Shelf Pl
set_option linter.unusedVariables false
set_option linter.unusedSimpArgs false
set_option maxRecDepth 20000
theorem Kk (K : Act → World → Prop) : zN (qt K) = qt K := by
 funext e a w
 cases e <;> rfl
section
variable {P : Program} {n0 r : Nat}
/-- A region that draws its order, within a round: as wp_region_RL. -/
theorem YM {id : Nat} {Q : Exit → Act → World → Prop} {a : Act} {w : World} {l : List Oper} (hd : wI l = true) (n : Nat) (S : List (Nat × jB)) (hm : P.follows .mixedOrders = true) (hB : ki .any l.toArray n = true) (hS0 : K8 l.toArray (S.map (·.1)) = true)
  (h : vS P .any l.toArray (qt fun a w => Q .normal a w) (fun w' => ∃ u, w' = ov w u) (JD S) (fun E a' => ∀ w', Below w.heap.size w w' → (∀ j, E j w') → wpList P l.toArray (zN (qt fun a w => Q .normal a w)) (l.drop n) a' w') (l.take n) 0 (fun _ _ => True) a) : (Code.region id l.toArray true).wpIn (Fence.wide.inRound r) n0 P Q a w := by
 have hn : n ≤ l.length := by
  have hB' := hB; simp only [ki, Bool.and_eq_true, decide_eq_true_eq] at hB'
  simpa using hB'.1.1.1
 have hlen : (l.take n).length = n := by simp; omega
 have h' := h fun j hj => by
  rw [hlen] at hj; simp [hj]
 rw [hlen, ← List.range_eq_range'] at h'
 have hS := QP hS0
 simp only [ki, Bool.and_eq_true, decide_eq_true_eq] at hB
 obtain ⟨⟨⟨hn, hR⟩, htl⟩, hseq⟩ := hB
 refine zal hm hd ?_
 rw [← Kk]
 have hdl : (l.drop n).length = l.toArray.size - n := by simp
 have := QW (P := P) (Q := qt fun a w => Q .normal a w) (md := .any) (C := fun w' => ∃ u, w' = ov w u) (S := JD S) (g := (l.drop n).length) hR htl (fun w1 w2 ⟨u, hu⟩ hb => by
   subst hu; exact ⟨w2, zU ((qN w u).trans (hb.mono (qN w u).size))⟩) hS
  (L := fun E a' => ∀ w', Below w.heap.size w w' → (∀ j, E j w') → wpList P l.toArray (zN (qt fun a w => Q .normal a w)) (l.drop n) a' w')
  (fun listed a' E w' zf hall hL ⟨u, hu⟩ hE => by
   have hT : listed = Array.replicate n true ++ Array.replicate (l.toArray.size - n) false := by
    apply Array.ext_getElem?
    intro j; rw [Array.getElem?_append, Array.size_replicate]; by_cases hjs : j < l.toArray.size
    ·have hjl : j < listed.size := by omega
     have h1 := hall j hjs; rw [Array.getD_eq_getD_getElem?, Array.getElem?_eq_getElem hjl, Option.getD_some] at h1; rw [Array.getElem?_eq_getElem hjl, h1]; by_cases hj : j < n
     ·rw [if_pos hj, Array.getElem?_replicate, if_pos hj, decide_eq_true hj]
     ·rw [if_neg hj, Array.getElem?_replicate, if_pos (by omega), decide_eq_false hj]
    ·rw [Array.getElem?_eq_none (by omega), if_neg (by omega), Array.getElem?_replicate, if_neg (by omega)]
   rw [hT]; refine wpAny_of_seq (l.drop n) n _ a' w' (fun j => by simp [List.getElem?_drop]) (by rw [hdl]; exact hseq) ?_
   subst hu; exact hL _ (qN w u) hE)
  n (List.range n) (Array.replicate l.toArray.size false) a (fun _ _ => True) w.drew (by simp) List.pairwise_lt_range (by simp) (fun k => by
   rw [List.mem_range, decide_eq_true_eq]; refine ⟨fun hk => ⟨by omega, hk, getD_in (by rw [Array.size_replicate]; omega) (getD_replicate_false _ _)⟩, fun hk => hk.2.1⟩)
  (fun t hts _ => getD_in (by rw [Array.size_replicate]; exact hts) (getD_replicate_false _ _)) (fun j oj _ hl => (by rw [getD_replicate_false] at hl; cases hl))
  ⟨w.drew, zU ((Below.refl _ _).drew)⟩ (fun _ => trivial) (fun _ _ _ _ _ => trivial) h'
 rw [hdl, show n + (l.toArray.size - n) = l.toArray.size by omega] at this
 exact this
end
/-- Two results that are blocks. -/
theorem xq {t u : TypeId} {fn : Func} {p r : Tmp} (h : fn.results = #[.cell p t, .cell r u]) (tmps : Array Value) (w : World) (b c : Nat) (hp : tmps.getD p undef = .pointer (some ⟨b, 0, none⟩)) (hr : tmps.getD r undef = .pointer (some ⟨c, 0, none⟩)) {cs : Array Value} {v : Value} (ht : zJ t w b cs) (hu : (Instr.loadAt u (.pointer (some ⟨c, 0, none⟩))).run Tryz.prog w = .ok v w) (hagg : ∀ w : World, (isAgg t).run Tryz.prog w = .ok true w) (zf : (Tryz.prog.info? t).map (·.size) = some cs.size) :
  (results fn tmps).run Tryz.prog w = .ok (.tuple #[.agg cs, v]) w := by
 have hl := zA ht hagg zf
 simp only [Instr.loadAt, Instr.sureAddr, Sem.run_bind, Sem.run_pure, Result.andThen_ok] at hl hu
 unfold results
 rw [h]
 have hp' : tmps[p]?.getD undef = .pointer (some ⟨b, 0, none⟩) := by simpa using hp
 have hr' : tmps[r]?.getD undef = .pointer (some ⟨c, 0, none⟩) := by simpa using hr
 simp [hp', hr', Instr.sureAddr, asAddr, hl, hu, Sem.run_bind, Sem.run_pure, Result.andThen_ok]
/-- Tiles beside what is no block of tiles. -/
theorem RS.own3 {v : Value} {ls : List TA} {W W' : World} {row : Option Nat} (h : RS v ls W) (hg : W.grownBy W' row) (hr : ∀ r, row = some r → (∃ o : Obj, W.heap[r]? = some o ∧ o.isCells = false) ∨ ∃ cs t, W.heap[r]? = some (.cells cs t (0, 0)) ∧ cs.size = 3) : RS v ls W' := by
 rcases h with h | ⟨g, o, c, e, hcap, sc⟩
 ·exact .inl h
 ·refine .inr ⟨g, o, c, e, hcap, fun hn => (sc hn).of_eq (hg.block g (sc hn).lt fun hg => ?_)⟩
  rcases hr g hg.symm with ⟨x, hx, hc⟩ | ⟨cs, t, hx, hs⟩
  ·have h0 := (sc hn).2 0 hn 0 (by omega)
   have hs : ∃ v, (xW (aT ls 0))[0]? = some v := ⟨_, Array.getElem?_eq_getElem (by rw [qi]; omega)⟩
   obtain ⟨v, hv⟩ := hs; rw [hv] at h0; have := Qm h0 x hx; rw [hc] at this; cases this
  ·have h1 := (sc hn).2 0 hn 257 (by omega)
   rw [cell_of_row W g _ cs _ (0, 0) hx] at h1; have h2 : (xW (aT ls 0))[257]? ≠ none := by
    rw [Ne, Array.getElem?_eq_none_iff, qi]; omega
   rw [← h1, Ne, Array.getElem?_eq_none_iff] at h2; omega
set_option maxHeartbeats 2000000 in
/-- Image: its pixels are a row that the call made. -/
theorem XQ (v : Value) (ls : List TA) (c : Rc) (w : World) (h : RS v ls w) (tk : jo ls) (hv : qD ls = true) (hE : jG c = 0) : Calls Tryz.prog 76 #[.agg #[v], .agg (j4 c)] w fun e w' => ∃ cb, w.heap.size ≤ cb ∧ e = .returned (.tuple #[.agg (xo c (.slice (some ⟨cb, 0, none⟩) (areaN c) (areaN c))), .int .i64 0]) ∧ jw ku w' cb (Qr c ls) ∧ Below w.heap.size w w' := by
 have B := Below.refl w.heap.size w
 have hn : ls.length ≤ maxLen := by have := (xN.1 hv).1; unfold maxLen; omega
 have HIM := Lib.hid (show zew c (ji ls) = Qr c ls from by rw [y8 hv]; exact zbO (yt hE) hv)
 obtain ⟨a', c', hT⟩ := Vt v ls w h tk hn
 have HR0 := Lib.hid (hT w (Below.refl _ _)).2
 have HT := Lib.hid hT
 clear hT
 obtain ⟨a, cp, rfl, hc⟩ := h.len
 have TK := Lib.hid (kP tk)
 have HP := Lib.hid (zbJ ls)
 have hfl := uH ls
 have FT := Lib.hid (yt hE)
 obtain ⟨an1, an2⟩ := ZX FT.out
 have AR : Hid (∀ w, Calls Tryz.prog 125 #[.agg #[.int .i64 c.x0, .int .i64 c.y0, .int .i64 c.x1, .int .i64 c.y1]] w fun e w' => e = .returned (.int .i64 (areaN c : Int)) ∧ Below w.heap.size w w') := Lib.hid fun w => by
  have := zaJ c w FT.out.valid; rw [Qj FT.out] at this; exact this
 have FE : Hid (∀ w, Calls Tryz.prog 124 #[.agg #[.int .i64 c.x0, .int .i64 c.y0, .int .i64 c.x1, .int .i64 c.y1]] w fun e w' => e = .returned (.int .i64 0) ∧ Below w.heap.size w w') := Lib.hid fun w => by
  have := za9 c w; rw [hE] at this; exact this
 have eg := enters_of Tryz.func127 (by kernel_rfl) rfl
 clear h tk hE hv
 show Calls Tryz.prog 76 #[.agg #[.slice a ls.length cp], .agg #[.int .i64 c.x0, .int .i64 c.y0, .int .i64 c.x1, .int .i64 c.y1]] w _
 go_enter Tryz.func76, Tryz.ntmps76
 go_upto_region 4 with (first | (go_at_call 124; refine (FE.out _).mono ?_; rintro e wn ⟨rfl, za⟩; have zf := B.size; have zg := za.size; replace B := B.trans (za.mono B.size); (try replace r1 := r1.below za); (try replace r0 := r0.below za); (try replace m4 := m4.below za); (try replace m7 := m7.below za); (try replace row := row.below za)) | (refine zp (t := 38) rfl _ rfl _ _ _ rfl (xR r0) (by rfl) ?_; simp only [zn]) | (have _ := r0; refine zu (t := 117) rfl _ (yj _ _ rfl) (z6 B ?_); clear B; intro b_m4 wn zb zd m4 za zf zk B; (try have zh := r1.lt); (try replace r1 := r1.below (za.mono zb)); (try have zh := r0.lt); (try replace r0 := r0.below (za.mono zb)); (try have zh := m4.lt); (try replace m4 := m4.below (za.mono zb)); (try have zh := m7.lt); (try replace m7 := m7.below (za.mono zb)); (try have zh := row.lt); (try replace row := row.below (za.mono zb)); simp only [zn]) | (have _ := r1; refine zt (t := 38) rfl _ rfl _ rfl (z6 B ?_); clear B; intro b_r0 wn zb zd r0 za zf zk B; (try have zh := r1.lt); (try replace r1 := r1.below (za.mono zb)); (try have zh := r0.lt); (try replace r0 := r0.below (za.mono zb)); (try have zh := m4.lt); (try replace m4 := m4.below (za.mono zb)); (try have zh := m7.lt); (try replace m7 := m7.below (za.mono zb)); (try have zh := row.lt); (try replace row := row.below (za.mono zb)); simp only [zn]) | (refine zt (t := 64) rfl _ rfl _ rfl (z6 B ?_); clear B; intro b_r1 wn zb zd r1 za zf zk B; (try have zh := r1.lt); (try replace r1 := r1.below (za.mono zb)); (try have zh := r0.lt); (try replace r0 := r0.below (za.mono zb)); (try have zh := m4.lt); (try replace m4 := m4.below (za.mono zb)); (try have zh := m7.lt); (try replace m7 := m7.below (za.mono zb)); (try have zh := row.lt); (try replace row := row.below (za.mono zb)); simp only [zn]) | fail)
 have q1 : w.heap.size ≤ b_r1 := by omega
 have q2 : b_r1 < b_r0 := by omega
 have q3 : b_r0 < b_m4 := by omega
 have q4 := m4.lt
 go_cut [7] from 14 to 18 (fun s wx => ∃ b_m7 b_row, s = .pointer (some ⟨b_m7, 0, none⟩) ∧ zJ 117 wx b_m7 (xo c (.slice (some ⟨b_row, 0, none⟩) (areaN c) (areaN c))) ∧ jw ku wx b_row (List.replicate (areaN c) Px.zero) ∧ Below w.heap.size w wx ∧ b_m4 < b_m7 ∧ b_m4 < b_row ∧ b_m7 ≠ b_row ∧ zJ 64 wx b_r1 #[.slice a ls.length cp] ∧ zJ 38 wx b_r0 (j4 c) ∧ zJ 117 wx b_m4 (xo Rc.zero (.slice none 0 0)))
 case first =>
  try have r1B := r1
  try have r0B := r0
  try have m4B := m4
  try have m7B := m7
  try have rowB := row
  refine vA 6 #[false, false, false, false, false, false, false] (by kernel_rfl) (by kernel_rfl) ?_; intro wn za; have hX := za; have zf := B.size; have zg := za.size; replace B := B.trans (za.mono B.size); try replace r1 := r1.below za
  try replace r0 := r0.below za
  try replace m4 := m4.below za
  try replace m7 := m7.below za
  try replace row := row.below za
  simp only [List.length_cons, List.length_nil, Nat.reduceAdd]; refine qW 0 rfl (by kernel_rfl) ⟨_, zU hX⟩ ?_; intro K hK; try simp only [zP]
  (first | (refine zo (t := 38) rfl _ _ _ rfl (fun w hw => xR (zD r0B w hw)) (by rfl) ?_; simp only [zn]; go_big_quiet_on) | (go_big_quiet_op; go_big_quiet_on))
  simp only [zn]; refine qW 1 rfl (by kernel_rfl) ⟨_, zU hX⟩ ?_; intro K hK; try simp only [zP]
  (first | (refine zo (t := 38) rfl _ _ _ rfl (fun w hw => xR (zD r0B w hw)) (by rfl) ?_; simp only [zn]; go_big_quiet_on) | (go_big_quiet_op; go_big_quiet_on))
  simp only [zn]; refine xH 2 5 rfl rfl (by kernel_rfl) rfl rfl (fun K hK => ?_) (fun K hK => ?_)
  ·skip
   try simp only [zP]
   go_simp
   go_at_call 125
   refine (AR.out _).mono ?_; rintro e wn ⟨rfl, za⟩; have zf := B.size; have zg := za.size; have hsx := hX.size; replace B := B.trans (za.mono B.size); replace hX := hX.trans (za.mono hX.size); try replace r1 := r1.below za
   try replace r0 := r0.below za
   try replace m4 := m4.below za
   try replace m7 := m7.below za
   try replace row := row.below za
   refine hK _ _ ⟨fun _ => ⟨_, zU hX⟩, ?_⟩; clear hK K; try simp only [zP]
   simp only [zn]; refine xH 3 5 rfl rfl (by kernel_rfl) rfl rfl (fun K hK => ?_) (fun K hK => ?_)
   ·skip
    try simp only [zP]
    refine Zh (E := ku) _ _ rfl (areaN c) (by rfl) (by rfl) (by omega) (by omega) ?_; intro b_row wn zb zd ht za zg; have zf := B.size; have hsx := hX.size; replace B := B.trans (za.mono (by omega)); replace hX := hX.trans (za.mono (by omega)); try replace r1 := r1.below (za.mono zb)
    try replace r0 := r0.below (za.mono zb)
    try replace m4 := m4.below (za.mono zb)
    try replace m7 := m7.below (za.mono zb)
    try replace row := row.below (za.mono zb)
    have row := ht; clear ht; refine hK _ _ ⟨fun _ => ⟨_, zU hX⟩, ?_⟩; clear hK K; try simp only [zP]
    simp only [zn]; refine qW 4 rfl (by kernel_rfl) ⟨_, zU hX⟩ ?_; intro K hK; try simp only [zP]
    (first | (refine zo (t := 38) rfl _ _ _ rfl (fun w hw => xR (zD r0B w hw)) (by rfl) ?_; simp only [zn]; go_big_quiet_on) | (go_big_quiet_op; go_big_quiet_on))
    simp only [zn]; refine qq 5 rfl (by kernel_rfl) rfl (fun K hK => ?_); try simp only [zP]
    refine zR (t := 117) _ (yj _ _ rfl) ?_; intro b_m7 wn zb zd ht za zg; have zf := B.size; have hsx := hX.size; replace B := B.trans (za.mono (by omega)); replace hX := hX.trans (za.mono (by omega)); try replace r1 := r1.below (za.mono zb)
    try replace r0 := r0.below (za.mono zb)
    try replace m4 := m4.below (za.mono zb)
    try replace m7 := m7.below (za.mono zb)
    try replace row := row.below (za.mono zb)
    have m7 := ht; clear ht; refine hK _ _ ⟨fun _ => ⟨_, zU hX⟩, ?_⟩; clear hK K; try simp only [zP]
    simp only [zn]; refine js (by kernel_rfl) (by kernel_rfl) ?_; simp only [List.drop_succ_cons, List.drop_zero]; go_wp2_with (first | (refine zq (t := 117) rfl _ _ rfl _ rfl _ rfl m7 (by kernel_rfl) rfl (by simp [xo, Value.oneCell']) (qG B (by omega) ?_); clear m7 B; intro wn m7 ze zf zg B; (try replace r1 := r1.of_eq (ze.block _ r1.lt (by omega))); (try replace r0 := r0.of_eq (ze.block _ r0.lt (by omega))); (try replace m4 := m4.of_eq (ze.block _ m4.lt (by omega))); (try replace row := row.of_eq (ze.block _ row.lt (by omega))); simp only [zn]) | fail)
    refine zN.normal ?_; go_wp2_with fail
    go_meet; exact ⟨b_m7, b_row, rfl, m7, row, B, by omega, by omega, by omega, r1, r0, m4⟩
   ·skip
    try simp only [zP]
    refine zR (t := 117) _ (yj _ _ rfl) ?_; intro b_m7 wn zb zd ht za zg; have zf := B.size; have hsx := hX.size; replace B := B.trans (za.mono (by omega)); replace hX := hX.trans (za.mono (by omega)); try replace r1 := r1.below (za.mono zb)
    try replace r0 := r0.below (za.mono zb)
    try replace m4 := m4.below (za.mono zb)
    try replace m7 := m7.below (za.mono zb)
    try replace row := row.below (za.mono zb)
    have m7 := ht; clear ht; refine hK _ _ ⟨fun _ => ⟨_, zU hX⟩, ?_⟩; clear hK K; try simp only [zP]
    simp only [zn]; refine qq 3 rfl (by kernel_rfl) rfl (fun K hK => ?_); try simp only [zP]
    refine Zh (E := ku) _ _ rfl (areaN c) (by rfl) (by rfl) (by omega) (by omega) ?_; intro b_row wn zb zd ht za zg; have zf := B.size; have hsx := hX.size; replace B := B.trans (za.mono (by omega)); replace hX := hX.trans (za.mono (by omega)); try replace r1 := r1.below (za.mono zb)
    try replace r0 := r0.below (za.mono zb)
    try replace m4 := m4.below (za.mono zb)
    try replace m7 := m7.below (za.mono zb)
    try replace row := row.below (za.mono zb)
    have row := ht; clear ht; refine hK _ _ ⟨fun _ => ⟨_, zU hX⟩, ?_⟩; clear hK K; try simp only [zP]
    simp only [zn]; refine qW 4 rfl (by kernel_rfl) ⟨_, zU hX⟩ ?_; intro K hK; try simp only [zP]
    (first | (refine zo (t := 38) rfl _ _ _ rfl (fun w hw => xR (zD r0B w hw)) (by rfl) ?_; simp only [zn]; go_big_quiet_on) | (go_big_quiet_op; go_big_quiet_on))
    simp only [zn]; refine js (by kernel_rfl) (by kernel_rfl) ?_; simp only [List.drop_succ_cons, List.drop_zero]; go_wp2_with (first | (refine zq (t := 117) rfl _ _ rfl _ rfl _ rfl m7 (by kernel_rfl) rfl (by simp [xo, Value.oneCell']) (qG B (by omega) ?_); clear m7 B; intro wn m7 ze zf zg B; (try replace r1 := r1.of_eq (ze.block _ r1.lt (by omega))); (try replace r0 := r0.of_eq (ze.block _ r0.lt (by omega))); (try replace m4 := m4.of_eq (ze.block _ m4.lt (by omega))); (try replace row := row.of_eq (ze.block _ row.lt (by omega))); simp only [zn]) | fail)
    refine zN.normal ?_; go_wp2_with fail
    go_meet; exact ⟨b_m7, b_row, rfl, m7, row, B, by omega, by omega, by omega, r1, r0, m4⟩
  ·skip
   try simp only [zP]
   refine zR (t := 117) _ (yj _ _ rfl) ?_; intro b_m7 wn zb zd ht za zg; have zf := B.size; have hsx := hX.size; replace B := B.trans (za.mono (by omega)); replace hX := hX.trans (za.mono (by omega)); try replace r1 := r1.below (za.mono zb)
   try replace r0 := r0.below (za.mono zb)
   try replace m4 := m4.below (za.mono zb)
   try replace m7 := m7.below (za.mono zb)
   try replace row := row.below (za.mono zb)
   have m7 := ht; clear ht; refine hK _ _ ⟨fun _ => ⟨_, zU hX⟩, ?_⟩; clear hK K; try simp only [zP]
   simp only [zn]; refine qq 2 rfl (by kernel_rfl) rfl (fun K hK => ?_); try simp only [zP]
   go_simp
   go_at_call 125
   refine (AR.out _).mono ?_; rintro e wn ⟨rfl, za⟩; have zf := B.size; have zg := za.size; have hsx := hX.size; replace B := B.trans (za.mono B.size); replace hX := hX.trans (za.mono hX.size); try replace r1 := r1.below za
   try replace r0 := r0.below za
   try replace m4 := m4.below za
   try replace m7 := m7.below za
   try replace row := row.below za
   refine hK _ _ ⟨fun _ => ⟨_, zU hX⟩, ?_⟩; clear hK K; try simp only [zP]
   simp only [zn]; refine qq 3 rfl (by kernel_rfl) rfl (fun K hK => ?_); try simp only [zP]
   refine Zh (E := ku) _ _ rfl (areaN c) (by rfl) (by rfl) (by omega) (by omega) ?_; intro b_row wn zb zd ht za zg; have zf := B.size; have hsx := hX.size; replace B := B.trans (za.mono (by omega)); replace hX := hX.trans (za.mono (by omega)); try replace r1 := r1.below (za.mono zb)
   try replace r0 := r0.below (za.mono zb)
   try replace m4 := m4.below (za.mono zb)
   try replace m7 := m7.below (za.mono zb)
   try replace row := row.below (za.mono zb)
   have row := ht; clear ht; refine hK _ _ ⟨fun _ => ⟨_, zU hX⟩, ?_⟩; clear hK K; try simp only [zP]
   simp only [zn]; refine qW 4 rfl (by kernel_rfl) ⟨_, zU hX⟩ ?_; intro K hK; try simp only [zP]
   (first | (refine zo (t := 38) rfl _ _ _ rfl (fun w hw => xR (zD r0B w hw)) (by rfl) ?_; simp only [zn]; go_big_quiet_on) | (go_big_quiet_op; go_big_quiet_on))
   simp only [zn]; refine js (by kernel_rfl) (by kernel_rfl) ?_; simp only [List.drop_succ_cons, List.drop_zero]; go_wp2_with (first | (refine zq (t := 117) rfl _ _ rfl _ rfl _ rfl m7 (by kernel_rfl) rfl (by simp [xo, Value.oneCell']) (qG B (by omega) ?_); clear m7 B; intro wn m7 ze zf zg B; (try replace r1 := r1.of_eq (ze.block _ r1.lt (by omega))); (try replace r0 := r0.of_eq (ze.block _ r0.lt (by omega))); (try replace m4 := m4.of_eq (ze.block _ m4.lt (by omega))); (try replace row := row.of_eq (ze.block _ row.lt (by omega))); simp only [zn]) | fail)
   refine zN.normal ?_; go_wp2_with fail
   go_meet; exact ⟨b_m7, b_row, rfl, m7, row, B, by omega, by omega, by omega, r1, r0, m4⟩
 case rest =>
  obtain ⟨b_m7, b_row, rfl, m7, row, B, p1, p2, p3, r1, r0, m4⟩ := hcut; have k0 : w.heap.size ≤ b_row := by omega
  have k1 : b_r0 ≠ b_row := by omega
  have k2 : b_m7 ≠ b_row := p3; have k3 : b_m4 ≠ b_row := by omega
  have k4 : b_m7 ≠ b_m4 := by omega
  go_wp2_with (first | (refine zq (t := 117) rfl _ _ rfl _ rfl _ rfl m4 (by kernel_rfl) rfl (by simp [xo, Value.oneCell']) (qG B (by omega) ?_); clear m4 B; intro wn m4 ze zf zg B; (try replace r1 := r1.of_eq (ze.block _ r1.lt (by omega))); (try replace r0 := r0.of_eq (ze.block _ r0.lt (by omega))); (try replace m7 := m7.of_eq (ze.block _ m7.lt (by omega))); (try replace row := row.of_eq (ze.block _ row.lt (by omega))); simp only [zn]) | (refine zp (t := 117) rfl _ rfl _ _ _ rfl (uX m7) (by rfl) ?_; simp only [zn]) | (go_at_call 126; have hr0 := r0.lt; have hr1 := m7.lt; have hr2 := row.lt; have hsp := KZ HR0.out k0; have zf := B.size; refine (X0 (kQ c) (fun s W => zJ 38 W b_r0 (j4 c) ∧ zJ 117 W b_m7 (xo c (.slice (some ⟨b_row, 0, none⟩) (areaN c) (areaN c))) ∧ jw ku W b_row s ∧ s.length = areaN c) b_row 127 #[.pointer (some ⟨b_r0, 0, none⟩), .pointer (some ⟨b_m7, 0, none⟩)] eg _ (ji ls) (List.replicate (areaN c) Px.zero) _ (HT.out _ B).2 TK.out (by omega) HP.out hr2 hsp ⟨r0, m7, row, by simp⟩ (fun s W W' hI hk => ⟨hI.1.of_eq (hk _ hr0), hI.2.1.of_eq (hk _ hr1), hI.2.2.1.of_eq (hk _ hr2), hI.2.2.2⟩) (fun s W x y p _ hI h1 h2 h3 h4 hp => (zaY c FT.out s hI.2.2.2 x y p b_r0 b_m7 b_row W hI.1 hI.2.1 hI.2.2.1 k1 k2).mono fun e W' hh => ⟨hh.1, ⟨hh.2.1.1, hh.2.1.2.1, hh.2.1.2.2, (zbM c s x y p).trans hI.2.2.2⟩, hh.2.2⟩) (zdJ c)).mono ?_; rintro e wn ⟨v1, rfl, _, hI, hcc⟩; have zg := hcc.size; replace m4 := m4.of_eq (hcc.block _ m4.lt k3); replace B := qV.below B hcc k0 zf; obtain ⟨r0, m7, row, hlen⟩ := hI) | (go_at_call 104; refine (HT.out _ B).1.mono ?_; rintro e wn ⟨rfl, za⟩; have zf := B.size; have zg := za.size; replace B := B.trans (za.mono B.size); (try replace r1 := r1.below za); (try replace r0 := r0.below za); (try replace m4 := m4.below za); (try replace m7 := m7.below za); (try replace row := row.below za)) | (refine zp (t := 64) rfl _ rfl _ _ _ rfl (zA r1 Tryz.isAgg64 (by kernel_rfl)) (by rfl) ?_; simp only [zn]) | fail)
  refine bodyPost_ret (zQ (t := 117) rfl _ _ (b_m4) rfl _ rfl m4 Tryz.isAgg117 (by kernel_rfl)) rfl ?_; refine ⟨_, k0, rfl, ?_, B⟩; rw [← HIM.out]; exact row
/-! ### The row, half painted -/
def kG (c : Rc) (F G : Int → Int → Px) (k : Nat) : List Px := (List.range (areaN c)).map fun j => if j < k then F (vP c j) (vQ c j) else G (vP c j) (vQ c j)
theorem zbT (c : Rc) (F G : Int → Int → Px) (k : Nat) : (kG c F G k).length = areaN c := by unfold kG; rw [List.length_map, List.length_range]
theorem WX (c : Rc) (ls : List TA) (F : Int → Int → Px) : kG c F (fun x y => xT ls x y) 0 = Qr c ls := by
 unfold kG Qr
 refine List.map_congr_left fun j _ => ?_
 rw [if_neg (by omega)]
theorem zbS (c : Rc) (F G : Int → Int → Px) : kG c F G (areaN c) = ke c F := by
 unfold kG ke
 refine List.map_congr_left fun j hj => ?_
 rw [if_pos (List.mem_range.1 hj)]
theorem zdM (c : Rc) (F G : Int → Int → Px) {k : Nat} (h : k < areaN c) : (kG c F G k)[k]? = some (G (vP c k) (vQ c k)) := by
 unfold kG
 rw [List.getElem?_map, List.getElem?_range h]
 show some (if k < k then _ else _) = _
 rw [if_neg (by omega)]
theorem zbU (c : Rc) (F G : Int → Int → Px) {k : Nat} (h : k < areaN c) : (kG c F G k).set k (F (vP c k) (vQ c k)) = kG c F G (k + 1) := by
 apply List.ext_getElem?
 intro j
 rw [List.getElem?_set]
 unfold kG
 by_cases e : k = j
 ·subst e
  rw [if_pos rfl, if_pos (by rw [List.length_map, List.length_range]; exact h), List.getElem?_map, List.getElem?_range h]
  show _ = some (if k < k + 1 then _ else _)
  rw [if_pos (by omega)]
 ·rw [if_neg e]
  by_cases hj : j < areaN c
  ·rw [List.getElem?_map, List.getElem?_map, List.getElem?_range hj]
   show some (if j < k then _ else _) = some (if j < k + 1 then _ else _)
   by_cases hk : j < k
   ·rw [if_pos hk, if_pos (by omega)]
   ·rw [if_neg hk, if_neg (by omega)]
  ·rw [List.getElem?_eq_none (by rw [List.length_map, List.length_range]; omega), List.getElem?_eq_none (by rw [List.length_map, List.length_range]; omega)]
theorem WW (c : Rc) (F G : Int → Int → Px) {k : Nat} (h : F (vP c k) (vQ c k) = G (vP c k) (vQ c k)) : kG c F G (k + 1) = kG c F G k := by
 unfold kG
 refine List.map_congr_left fun j _ => ?_
 by_cases hk : j < k
 ·rw [if_pos hk, if_pos (by omega)]
 ·rw [if_neg hk]
  by_cases hj : j < k + 1
  ·rw [if_pos hj, show j = k by omega, h]
  ·rw [if_neg hj]
/-- The pixel at a row and a column. -/
theorem zbW {c : Rc} (hf : xj c) (F G : Int → Int → Px) {i j : Nat} (hj : (j : Int) < c.x1 - c.x0) (hi : (i : Int) < c.y1 - c.y0) : i * widN c + j < areaN c ∧ (kG c F G (i * widN c + j))[i * widN c + j]? = some (G (c.x0 + j) (c.y0 + i)) ∧ (kG c F G (i * widN c + j)).set (i * widN c + j) (F (c.x0 + j) (c.y0 + i)) = kG c F G (i * widN c + (j + 1)) ∧ (F (c.x0 + j) (c.y0 + i) = G (c.x0 + j) (c.y0 + i) → kG c F G (i * widN c + (j + 1)) = kG c F G (i * widN c + j)) := by
 obtain ⟨k, e, hk, ex, ey⟩ := zco hf hj hi
 have hw : c.x1 - c.x0 = (widN c : Int) := by unfold widN; have := hf.h1; omega
 have ek : k = i * widN c + j := by
  rw [hw] at e; omega
 subst ek
 have h1 := zdM c F G hk
 have h2 := zbU c F G hk
 have h3 := WW c F G (k := i * widN c + j)
 rw [ex, ey] at h1 h2 h3
 rw [← Nat.add_assoc]
 exact ⟨hk, h1, h2, h3⟩
/-! ### The two closures -/
def chP (s : qS) (p : Px) (n : Int) : Px := if s.era = true then Zq p (255 - n) else uN p s.col 0 n
theorem VP (s : qS) (n : Int) (p : Px) : Xa s n p = if 0 < n then chP s p n else p := rfl
theorem w8 (w : World) (o : Oper) (ho : o.op = .alloc 28) (ev : Operand → Value) : (execOp ev o).run Tryz.prog w = .ok (.value (.pointer (some ⟨w.heap.size, 0, none⟩))) (w.alloc (.cells #[.int .u8 0, .int .u8 0, .int .u8 0, .int .u8 0] 28)) := by
 obtain ⟨d, p, t, ps, af, gd⟩ := o
 simp only at ho
 subst ho
 kernel_rfl
theorem zc3 (q r : Px) (c : Int) (w : World) (hq : q.ok) (e : Zq q c = r) : Calls Tryz.prog 75 #[.agg (ku.enc q), .int .i64 c] w fun e w' => e = .returned (.agg (ku.enc r)) ∧ Below w.heap.size w w' := e ▸ zeJ q c w hq
theorem zc5 (q p r : Px) (m c : Int) (w : World) (hq : q.ok) (hp : p.ok) (e : uN q p m c = r) : Calls Tryz.prog 73 #[.agg (ku.enc q), .agg (ku.enc p), .int .i64 m, .int .i64 c] w fun e w' => e = .returned (.agg (ku.enc r)) ∧ Below w.heap.size w w' := e ▸ zeL q p m c w hq hp
theorem zaZ (v : Value) (s : qS) (p q : Px) (n : Int) (b : Nat) (w : World) (s2 : zJ 30 w b (qR v s)) (hp : p.ok) (hc : s.col.ok) (e : uN p s.col 0 n = q) : Calls Tryz.prog 72 #[.agg (ku.enc p), .int .i64 n, .pointer (some ⟨b, 0, none⟩)] w fun e w' => e = .returned (.agg (ku.enc q)) ∧ Below w.heap.size w w' := by
 have B := Below.refl w.heap.size w
 have HP := Lib.hid hp
 have HC := Lib.hid hc
 have HE := Lib.hid e
 clear hp hc e
 go_enter Tryz.func72, Tryz.ntmps72
 go_upto_region 0 with fail
 refine wp_region_lit ?_
 try simp only [zP]
 (refine zt (t := 28) rfl _ rfl _ rfl (z6 B ?_); clear B; intro b_r3 wn zb zd r3 za zf zk B; (try have zh := s2.lt); (try replace s2 := s2.below (za.mono zb)); simp only [zn])
 (refine zu (t := 28) rfl _ (w8 _ _ rfl) (z6 B ?_); clear B; intro b_r5 wn zb zd r5 za zf zk B; (try have zh := r3.lt); (try replace r3 := r3.below (za.mono zb)); (try have zh := s2.lt); (try replace s2 := s2.below (za.mono zb)); simp only [zn])
 refine wpList_nil ?_
 have k1 : b_r3 < b_r5 := by have := r3.lt; omega
 replace r3 : zJ 28 _ b_r3 (ku.enc p) := r3
 go_upto_region 1 with fail
 refine wp_region_lit ?_
 try simp only [zP]
 refine jp 4 ?_
 repeat (first | go_big_quiet_skip | (go_big_quiet_want; first | ((first | refine zo (t := 28) rfl _ _ _ rfl (fun w hw => j2 (zD s2 w hw)) (by rfl) ?_ | refine qB ?_ | refine qC ?_); simp only [zn]; go_big_quiet_on) | (go_big_quiet_op; go_big_quiet_on)))
 refine wpQuiet_nil ?_
 refine qT (enters_of Tryz.func73 (by kernel_rfl) rfl) (c := zc5 p s.col q 0 n _ HP.out HC.out HE.out) (h := ?_)
 rintro e wn ⟨rfl, za⟩
 have zf := B.size
 have zg := za.size
 replace B := B.trans (za.mono B.size)
 (try replace r5 := r5.below za)
 refine ⟨_, rfl, ?_⟩
 simp only [zn]
 (refine zq (t := 28) rfl _ _ rfl _ rfl _ rfl r5 (by kernel_rfl) rfl (by simp [ku, pxA, Value.oneCell']) (qG B (by omega) ?_); clear r5 B; intro wn r5 ze zf zg B; simp only [zn])
 refine wpList_nil ?_
 first | (refine bodyPost_ret (zv (t := 28) rfl _ _ (b_r5) rfl r5 Tryz.isAgg28 (by kernel_rfl)) rfl ?_) | (go_step; refine bodyPost_ret (zv (t := 28) rfl _ _ (b_r5) rfl r5 Tryz.isAgg28 (by kernel_rfl)) rfl ?_) | (go_step; go_step; refine bodyPost_ret (zv (t := 28) rfl _ _ (b_r5) rfl r5 Tryz.isAgg28 (by kernel_rfl)) rfl ?_) | (go_step; go_step; go_step; refine bodyPost_ret (zv (t := 28) rfl _ _ (b_r5) rfl r5 Tryz.isAgg28 (by kernel_rfl)) rfl ?_) | (go_step; go_step; go_step; go_step; refine bodyPost_ret (zv (t := 28) rfl _ _ (b_r5) rfl r5 Tryz.isAgg28 (by kernel_rfl)) rfl ?_) | (go_step; go_step; go_step; go_step; go_step; refine bodyPost_ret (zv (t := 28) rfl _ _ (b_r5) rfl r5 Tryz.isAgg28 (by kernel_rfl)) rfl ?_)
 exact ⟨rfl, B⟩
theorem za0 (p q : Px) (n : Int) (w : World) (hn : 0 ≤ n ∧ n ≤ 255) (hp : p.ok) (e : Zq p (255 - n) = q) : Calls Tryz.prog 74 #[.agg (ku.enc p), .int .i64 n] w fun e w' => e = .returned (.agg (ku.enc q)) ∧ Below w.heap.size w w' := by
 have B := Below.refl w.heap.size w
 have HP := Lib.hid hp
 have HE := Lib.hid e
 clear hp e
 go_enter Tryz.func74, Tryz.ntmps74
 go_upto_region 0 with fail
 refine wp_region_lit ?_
 try simp only [zP]
 (refine zt (t := 28) rfl _ rfl _ rfl (z6 B ?_); clear B; intro b_r2 wn zb zd r2 za zf zk B; simp only [zn])
 (refine zu (t := 28) rfl _ (w8 _ _ rfl) (z6 B ?_); clear B; intro b_r4 wn zb zd r4 za zf zk B; (try have zh := r2.lt); (try replace r2 := r2.below (za.mono zb)); simp only [zn])
 refine wpList_nil ?_
 have k1 : b_r2 < b_r4 := by have := r2.lt; omega
 replace r2 : zJ 28 _ b_r2 (ku.enc p) := r2
 go_upto_region 1 with fail
 refine wp_region_lit ?_
 try simp only [zP]
 refine zy 3 ?_
 refine qT (enters_of Tryz.func75 (by kernel_rfl) rfl) (c := zc3 p q (255 - n) _ HP.out HE.out) (h := ?_)
 rintro e wn ⟨rfl, za⟩
 have zf := B.size
 have zg := za.size
 replace B := B.trans (za.mono B.size)
 (try replace r4 := r4.below za)
 refine ⟨_, rfl, ?_⟩
 simp only [zn]
 (refine zq (t := 28) rfl _ _ rfl _ rfl _ rfl r4 (by kernel_rfl) rfl (by simp [ku, pxA, Value.oneCell']) (qG B (by omega) ?_); clear r4 B; intro wn r4 ze zf zg B; simp only [zn])
 refine wpList_nil ?_
 first | (refine bodyPost_ret (zv (t := 28) rfl _ _ (b_r4) rfl r4 Tryz.isAgg28 (by kernel_rfl)) rfl ?_) | (go_step; refine bodyPost_ret (zv (t := 28) rfl _ _ (b_r4) rfl r4 Tryz.isAgg28 (by kernel_rfl)) rfl ?_) | (go_step; go_step; refine bodyPost_ret (zv (t := 28) rfl _ _ (b_r4) rfl r4 Tryz.isAgg28 (by kernel_rfl)) rfl ?_) | (go_step; go_step; go_step; refine bodyPost_ret (zv (t := 28) rfl _ _ (b_r4) rfl r4 Tryz.isAgg28 (by kernel_rfl)) rfl ?_) | (go_step; go_step; go_step; go_step; refine bodyPost_ret (zv (t := 28) rfl _ _ (b_r4) rfl r4 Tryz.isAgg28 (by kernel_rfl)) rfl ?_) | (go_step; go_step; go_step; go_step; go_step; refine bodyPost_ret (zv (t := 28) rfl _ _ (b_r4) rfl r4 Tryz.isAgg28 (by kernel_rfl)) rfl ?_)
 exact ⟨rfl, B⟩
end Go.Proofs.YtepelndbbhdofaaGreatDoor
/- Contract of Paint of package stroke. -/
namespace Go.Proofs.YtepelndbbhdofaaGreatDoor
open Go.RowKit Go.Shelf Pl
attribute [local go_sem] Oper.semAt_some
set_option linter.unusedVariables false
set_option linter.unusedSimpArgs false
set_option maxRecDepth 20000
section
variable {F : Fence} {n : Nat} {P : Program}
/-- As rangeFunc_O, where the body may return. -/
theorem Xn {α : Type} {g : Operand} {ps : Array Tmp} {assign body : Code} {Q : Exit → Act → World → Prop} {a : Act} {w : World}
  (hro : F.round = none) (h1 : 1 ≤ n) {gf : Nat} {lb : Array Value} (hg : a.eval g = .func (.func gf) #[] lb) (hFg : F.fn gf) (eg : ∀ args w, (callFunc gf args).run P w = .ok (.enter gf args) w)
  {encs : α → Array Value} {Kp : World → World → Prop} {S Sp : List α → Prop} {N : Nat} {w0 : World} (hseq : Za F (n - 1) P gf lb encs Kp S Sp N w0)
  (hKt : ∀ {A B C : World}, Kp A B → Kp B C → Kp A C) (hKb : ∀ (W : World) (l : Nat) (o o' : Obj), w.heap.size ≤ l → W.heap[l]? = some o → o.isCells = false → o.isWalk = false → Kp W (W.putObj l o'))
  (hKg : ∀ (A B : World), Below A.heap.size A B → Kp A B) (hb0 : Below w0.heap.size w0 w) (hps : ∀ x, (encs x).size = ps.size)
  (I Ix : List α → World → Prop) (hI0 : zaI w.heap.size I) (hX0 : zaI w.heap.size Ix) (h0 : I [] w) (As : α → Act → World → Prop) (hAs : ∀ x, OwnFrom w.heap.size (As x))
  (hassign : ∀ (l : Nat) (pre : List α) (x : α) (W : World) (K : Act → World → Prop), I pre W → w.heap.size + 2 < W.heap.size → (∀ a' W', Below W.heap.size W W' → As x a' W' → K a' W') →
   assign.wpIn (F.inRound l) (n - 1 - 1) P (Exit.then K (fun _ _ _ => False)) { tmps := (ps.zip (encs x)).foldl (fun t (p, v) => t.setIfInBounds p v) a.tmps, defers := [] } W)
  (hbody : ∀ (l : Nat) (pre : List α) (x : α) (W : World) (a' : Act), I pre W → As x a' W → pre.length < N → body.wpIn (F.inRound l) (n - 1 - 1) P (ownPostK Kp I (fun c xs W => c = .ret ∧ Ix xs W) (pre ++ [x]) W) a' W)
  (hdone : ∀ (D : Nat) (xs : List α) (W : World), w.heap.size ≤ D → S xs → I xs W → W.heap[D]? = some (.deferred (some [])) → Q .normal { a with defers := { target := .collected D, args := #[] } :: a.defers } W)
  (hstop : ∀ (D : Nat) (pre : List α) (W : World), w.heap.size ≤ D → Sp pre → Ix pre W → W.heap[D]? = some (.deferred (some [])) → Q .ret { a with defers := { target := .collected D, args := #[] } :: a.defers } W) :
  (Code.rangeFunc g ps assign body).wpIn F n P Q a w := by
 have hI : OwnFrom w.heap.size I := hI0.from
 have hX : OwnFrom w.heap.size Ix := hX0.from
 refine wpIn_rangeFunc fun fn hfn => ?_
 rw [hro]
 obtain ⟨rc, hrc⟩ : ∃ rc : LoopState → Option Code → Loop, rc = fun st pe => { state := st, pending := pe, fn, tmps := a.tmps, params := ps, assign, body, defers := w.heap.size } := ⟨_, rfl⟩
 obtain ⟨W1, hW1⟩ : ∃ W1, (w.alloc (.deferred (some []))).alloc (.loop (rc .ready none)) = W1 := ⟨_, rfl⟩
 have blkL : W1.heap[w.heap.size + 1]? = some (.loop (rc .ready none)) := by
  have := World.alloc_heap_new (w.alloc (.deferred (some []))) (.loop (rc .ready none)); rw [← hW1]
  rwa [World.size_alloc] at this
 have blkD : W1.heap[w.heap.size]? = some (.deferred (some [])) := by
  rw [← hW1]; exact (Below.heap_alloc _ _ _ (by simp)).trans (World.alloc_heap_new w _)
 have grown : Below w0.heap.size w0 W1 := by
  rw [← hW1]; exact hb0.trans ((((Below.refl _ w).alloc (Nat.le_refl _) _).alloc (by simp) _).mono hb0.size)
 have QQ : I [] W1 := by rw [← hW1]; exact hI.alloc _ (hI.alloc _ h0)
 refine ⟨w.heap.size + 1, [{ target := .collected w.heap.size, args := #[] }], W1, { target := .fn (.func gf) lb, args := #[.func (.yield (w.heap.size + 1)) #[] #[]] }, W1, gf,
  #[.func (.yield (w.heap.size + 1)) #[] #[]] ++ lb, W1, ?_, ?_, ?_, ?_, fun _ => h1, ?_⟩
 ·rw [← hW1, hrc]; exact run_enterLoop_outer _ _ _ _ _
 ·simp only [resolve, hg]
  simp [go_sem]
 ·intro f' hf'
  simp [Target.leads] at hf'
  subst hf'; exact hFg
 ·simp [invoke, go_sem, eg]
 have hszW1 : W1.heap.size = w.heap.size + 2 := by rw [← hW1]; simp
 have book : ∀ (A B : World) (row : Option Nat) (c : Loop), A.grownBy B row → (∀ r, row = some r → X3 W1.heap.size A r) → A.heap[w.heap.size + 1]? = some (.loop c) → A.heap[w.heap.size]? = some (.deferred (some [])) → B.heap[w.heap.size + 1]? = some (.loop c) ∧ B.heap[w.heap.size]? = some (.deferred (some [])) := fun A B row c hg' hr h1 h2 =>
  ⟨(hg'.block _ (Array.getElem?_eq_some_iff.1 h1).1 (fun e => by have := (hr _ e.symm).1; omega)).trans h1, (hg'.block _ (Array.getElem?_eq_some_iff.1 h2).1 (fun e => by have := (hr _ e.symm).1; omega)).trans h2⟩
 have turn : ∀ (A : World) (row : Option Nat), (∀ r, row = some r → X3 W1.heap.size A r) → ∀ r, row = some r → w.heap.size ≤ r ∧ ((∃ o : Obj, A.heap[r]? = some o ∧ o.isCells = false) ∨ X3 (w.heap.size + 2) A r) := fun A row hr r e => ⟨by have := (hr r e).1; omega, .inr (by have := hr r e; rwa [hszW1] at this)⟩
 refine (hseq (w.heap.size + 1)
  (fun pre W => I pre W ∧ W.heap[w.heap.size + 1]? = some (.loop (rc .ready none)) ∧ W.heap[w.heap.size]? = some (.deferred (some [])))
  (fun pre W => Ix pre W ∧ W.heap[w.heap.size + 1]? = some (.loop (rc .done (some .ret))) ∧ W.heap[w.heap.size]? = some (.deferred (some []))) W1 grown
  (fun s A B row hs hg' hr => ⟨hI0 s A B row hs.1 hg' (turn A row hr), book A B row _ hg' hr hs.2.1 hs.2.2⟩)
  (fun s A B row hs hg' hr => ⟨hX0 s A B row hs.1 hg' (turn A row hr), book A B row _ hg' hr hs.2.1 hs.2.2⟩) ?_ ⟨QQ, blkL, blkD⟩).mono ?_
 ·rintro pre x W ⟨hi, hl, hk⟩ hlen hbig
  have hy := run_yield (P := P) (args := encs x) hl (by rw [hrc]; exact hps x)
  rw [hrc] at hy; refine ⟨fn, _, assign, body, hy, roundIn_of_wpIn hfn (hassign _ pre x W _ hi (by rw [hszW1] at hbig; exact hbig) fun a' V hb ha => ?_)⟩
  have hlV : V.heap[w.heap.size + 1]? = some (.loop (rc .ready none)) := (hb.block _ (Array.getElem?_eq_some_iff.1 hl).1).trans hl; have hkV : V.heap[w.heap.size]? = some (.deferred (some [])) := (hb.block _ (Array.getElem?_eq_some_iff.1 hk).1).trans hk; have hiV : I pre V := hI pre W V none hi (xn hb) (fun r e => by cases e); refine ⟨_, run_beginRound hlV (by rw [hrc]), ?_⟩; obtain ⟨V1, hV1⟩ : ∃ V1, V.putObj (w.heap.size + 1) (.loop { rc .ready none with state := .busy }) = V1 := ⟨_, rfl⟩; have hl1 : V1.heap[w.heap.size + 1]? = some (.loop { rc .ready none with state := .busy }) := by rw [← hV1]; exact World.putObj_heap_same (Array.getElem?_eq_some_iff.1 hlV).1
  have hk1 : V1.heap[w.heap.size]? = some (.deferred (some [])) := by rw [← hV1]; exact (World.putObj_heap_other (by omega)).trans hkV
  have hKp1 : Kp W V1 := hKt (hKg _ _ hb) (by rw [← hV1]; exact hKb _ _ _ _ (by omega) hlV rfl rfl)
  have hi1 : I pre V1 := by rw [← hV1]; exact hI.putObj _ hiV (by omega) hlV rfl
  have ha1 : As x a' V1 := by rw [← hV1]; exact (hAs x).putObj _ ha (by omega) hlV rfl
  rw [hV1]; refine wpIn_mono (hbody _ pre x V1 a' hi1 ha1 hlen) ?_; rintro e a3 W3 hp; cases e with
  | normal =>
   obtain ⟨ko, kp, hi3⟩ := hp; have hl3 := ko.same _ _ hl1 rfl; have hk3 := ko.same _ _ hk1 rfl; have he := run_endRound (P := P) none hl3; rw [hrc] at he; refine ⟨_, _, he, .inl ⟨rfl, ⟨hI.putObj _ hi3 (by omega) hl3 rfl, ?_, (World.putObj_heap_other (by omega)).trans hk3⟩, hKt (hKt hKp1 kp) (hKb _ _ _ _ (by omega) hl3 rfl rfl)⟩⟩; rw [World.putObj_heap_same (Array.getElem?_eq_some_iff.1 hl3).1, hrc]
   rfl
  | ret =>
   obtain ⟨ko, _, hi3⟩ := hp; have hl3 := ko.same _ _ hl1 rfl; have hk3 := ko.same _ _ hk1 rfl; have he := run_endRound (P := P) (some .ret) hl3; rw [hrc] at he; refine ⟨_, _, he, .inr ⟨rfl, hX.putObj _ hi3 (by omega) hl3 rfl, ?_, (World.putObj_heap_other (by omega)).trans hk3⟩⟩; rw [World.putObj_heap_same (Array.getElem?_eq_some_iff.1 hl3).1, hrc]
   rfl
  | exit id => cases hp.2.1
  | goto t => cases hp.2.1
  | panic ch => exact hp.elim
  | outgrown => exact hp.elim
 ·rintro e W2 ⟨⟨v, rfl⟩, ⟨xs, hS, hi, hl, hk⟩ | ⟨pre, hSp, hi, hl, hk⟩⟩
  ·have he := run_endLoop (P := P) hl (by rw [hrc]; simp)
   rw [hrc] at he; exact ⟨none, _, he, hdone _ xs _ (Nat.le_refl _) hS (hI.putObj _ hi (by omega) hl rfl) ((World.putObj_heap_other (by omega)).trans hk)⟩
  ·have he := run_endLoop (P := P) hl (by rw [hrc]; simp)
   rw [hrc] at he; exact ⟨some .ret, _, he, wpIn_ret (hstop _ pre _ (Nat.le_refl _) hSp (hX.putObj _ hi (by omega) hl rfl) ((World.putObj_heap_other (by omega)).trans hk))⟩
end
/-! ### Blocks of an error, of a function -/
theorem uV (w : World) (o : Oper) (ho : o.op = .alloc 53) (ev : Operand → Value) : (execOp ev o).run Tryz.prog w = .ok (.value (.pointer (some ⟨w.heap.size, 0, none⟩))) (w.alloc (.cells #[.int .i64 0] 53)) := by
 obtain ⟨d, p, t, ps, af, gd⟩ := o
 simp only at ho
 subst ho
 kernel_rfl
theorem Xr (w : World) (o : Oper) (ho : o.op = .alloc 114) (ev : Operand → Value) : (execOp ev o).run Tryz.prog w = .ok (.value (.pointer (some ⟨w.heap.size, 0, none⟩))) (w.alloc (.cells #[.nilFunc] 114)) := by
 obtain ⟨d, p, t, ps, af, gd⟩ := o
 simp only at ho
 subst ho
 kernel_rfl
theorem j0 {w : World} {b : Nat} {z : Int} (h : zJ 53 w b #[.int .i64 z]) : (Instr.loadAt 53 (.pointer (some ⟨b, 0, none⟩))).run Tryz.prog w = .ok (.int .i64 z) w := by
 have c0 := h.cell 0 rfl
 simp [go_sem, c0]
theorem YT {w : World} {b : Nat} {f : Fn} {x y : Array Value} (h : zJ 114 w b #[.func f x y]) : (Instr.loadAt 114 (.pointer (some ⟨b, 0, none⟩))).run Tryz.prog w = .ok (.func f x y) w := by
 have c0 := h.cell 0 rfl
 simp [go_sem, c0]
theorem wy {ops : Array Oper} {rest : List Oper} {o : Oper} {a : Act} {w : World} {Q : Exit → Act → World → Prop} (hg : o.guard = none) (x y : Operand) (ho : o.op = .store 53 x y) (b : Nat) (hx : a.eval x = .pointer (some ⟨b, 0, none⟩)) (z : Int) (hy : a.eval y = .int .i64 z) {v : Value} (ht : zJ 53 w b #[v])
  (h : ∀ w', zJ 53 w' b #[.int .i64 z] → qV b w w' → w'.heap.size = w.heap.size → wpList Tryz.prog ops Q rest (a.put o.dst undef) w') : wpList Tryz.prog ops Q (o :: rest) a w := by
 have c0 := ht.cell 0 rfl
 have f0 := ht.frozen 0
 refine z8 hg x y ho (w.setCell ⟨b, 0, none⟩ (.int .i64 z)) ?_ (h _ ?_ ((qV.refl b w).setCell _) (by simp only [World.size_setCell]))
 ·rw [hx, hy]
  simp [go_sem, c0, f0]
 ·exact heap_setCell_same w b 0 #[v] _ _ ht
theorem ZJ {ops : Array Oper} {rest : List Oper} {o : Oper} {a : Act} {w : World} {Q : Exit → Act → World → Prop} (hg : o.guard = none) (x y : Operand) (ho : o.op = .store 114 x y) (b : Nat) (hx : a.eval x = .pointer (some ⟨b, 0, none⟩)) (f : Fn) (p q : Array Value) (hy : a.eval y = .func f p q) {v : Value} (ht : zJ 114 w b #[v])
  (h : ∀ w', zJ 114 w' b #[.func f p q] → qV b w w' → w'.heap.size = w.heap.size → wpList Tryz.prog ops Q rest (a.put o.dst undef) w') : wpList Tryz.prog ops Q (o :: rest) a w := by
 have c0 := ht.cell 0 rfl
 have f0 := ht.frozen 0
 refine z8 hg x y ho (w.setCell ⟨b, 0, none⟩ (.func f p q)) ?_ (h _ ?_ ((qV.refl b w).setCell _) (by simp only [World.size_setCell]))
 ·rw [hx, hy]
  simp [go_sem, c0, f0]
 ·exact heap_setCell_same w b 0 #[v] _ _ ht
/-- An error stays. -/
theorem WV (s : qS) (k : Nat) (ls : List TA) {E : Int} (h : (xU s ((y9 (xf s) k).map fun i => xg s i.val) ls).2 = E) (hE : E ≠ 0) : xU s (xO s) ls = ([], E) := by
 have e1 : xO s = ((y9 (xf s) k).map fun i => xg s i.val) ++ ((List.finRange (xf s)).drop k).map fun i => xg s i.val := by
  rw [← Qo, ← List.map_append]; unfold y9; rw [List.take_append_drop]
 have e2 : xU s (xO s) ls = xU s ((y9 (xf s) k).map fun i => xg s i.val) ls := by
  rw [e1]; unfold xU at *; rw [List.foldl_append]; exact Xb s _ (by rw [h]; exact hE)
 rw [e2]
 exact Prod.ext (WS s _ ls (by rw [h]; exact hE)) h
set_option maxHeartbeats 16000000 in
theorem Km (v vs : Value) (s : qS) (ls : List TA) (w : World) (lm : xG w) (h : RS v ls w) (tk : jo ls) (hn : ls.length ≤ maxLen) (rs : j9 qQ vs s.pts w) (hv : ju s = true) (hcol : s.col.ok) : Calls Tryz.prog 30 #[.agg #[v], .agg (qR vs s)] w fun e w' => ∃ a cp, e = .returned (.tuple #[.agg #[.slice a (xp s ls).1.length cp], .int .i64 (xp s ls).2]) ∧ RS (.slice a (xp s ls).1.length cp) (xp s ls).1 w' ∧ Below w.heap.size w w' := by
 have B := Below.refl w.heap.size w
 have HV0 := Lib.hid hv
 have HVS := Lib.hid ((jR s).1 hv)
 have HCOL := Lib.hid hcol
 have HFIN := Lib.hid (show xp s ls = xU s (xO s) (ji ls) from if_pos hv)
 have hl1 := HVS.out.l1
 have hl2 := HVS.out.l2
 obtain ⟨ad, cd, rfl, hcd⟩ := rs.len
 obtain ⟨g, o, rfl, pc⟩ := rs.at (by omega)
 obtain ⟨a, c, rfl, hc⟩ := h.len
 have TK := Lib.hid tk
 have rs1 := h
 have hg0 := pc.lt
 have hlm0 := lm.lt
 clear hv hcol h tk
 refine (callsIn_wide (n := 3)).1 ?_
 refine callsIn_of_wp_marks Tryz.func30 rfl trivial ?_ rfl
 simp only [Tryz.ntmps30, List.size_toArray, List.length_cons, List.length_nil, Nat.reduceAdd, Nat.reduceSub, Array.replicate_succ, Array.replicate_zero, List.push_toArray, List.append_toArray, List.nil_append, List.cons_append]
 refine wpIn_wide.2 ?_
 go_upto_region 0 with fail
 refine wp_region_lit ?_
 (refine zt (t := 64) rfl _ rfl _ rfl (z6 B ?_); clear B; intro b_r2 wn zb zd r2 za zf zk B; (try have zh := lm.lt); (try replace lm := lm.below (za.mono zb)); (try have zh := rs1.lt); (try replace rs1 := rs1.below (za.mono zb)); (try have zh := pc.lt); (try replace pc := pc.below (za.mono zb)); (try have zh := rs.lt); (try replace rs := rs.below (za.mono zb)); simp only [zn])
 (refine zt (t := 30) rfl _ rfl _ rfl (z6 B ?_); clear B; intro b_r3 wn zb zd r3 za zf zk B; (try have zh := r2.lt); (try replace r2 := r2.below (za.mono zb)); (try have zh := lm.lt); (try replace lm := lm.below (za.mono zb)); (try have zh := rs1.lt); (try replace rs1 := rs1.below (za.mono zb)); (try have zh := pc.lt); (try replace pc := pc.below (za.mono zb)); (try have zh := rs.lt); (try replace rs := rs.below (za.mono zb)); simp only [zn])
 (refine zu (t := 64) rfl _ (jD _ _ rfl) (z6 B ?_); clear B; intro b_r4 wn zb zd r4 za zf zk B; (try have zh := r2.lt); (try replace r2 := r2.below (za.mono zb)); (try have zh := r3.lt); (try replace r3 := r3.below (za.mono zb)); (try have zh := lm.lt); (try replace lm := lm.below (za.mono zb)); (try have zh := rs1.lt); (try replace rs1 := rs1.below (za.mono zb)); (try have zh := pc.lt); (try replace pc := pc.below (za.mono zb)); (try have zh := rs.lt); (try replace rs := rs.below (za.mono zb)); simp only [zn])
 (refine zu (t := 53) rfl _ (uV _ _ rfl) (z6 B ?_); clear B; intro b_e5 wn zb zd e5 za zf zk B; (try have zh := r2.lt); (try replace r2 := r2.below (za.mono zb)); (try have zh := r3.lt); (try replace r3 := r3.below (za.mono zb)); (try have zh := r4.lt); (try replace r4 := r4.below (za.mono zb)); (try have zh := lm.lt); (try replace lm := lm.below (za.mono zb)); (try have zh := rs1.lt); (try replace rs1 := rs1.below (za.mono zb)); (try have zh := pc.lt); (try replace pc := pc.below (za.mono zb)); (try have zh := rs.lt); (try replace rs := rs.below (za.mono zb)); simp only [zn])
 refine wpList_nil ?_
 have k2 : w.heap.size ≤ b_r2 := by omega
 have k3 : b_r2 < b_r3 := by have := r2.lt; omega
 have k4 : b_r3 < b_r4 := by have := r3.lt; omega
 have k5 : b_r4 < b_e5 := by have := r4.lt; omega
 go_upto_region 1 with fail
 refine wp_region_lit ?_
 refine zy 1 ?_
 refine qT (enters_of Tryz.func16 (by kernel_rfl) rfl) (c := xz _ s true _ rs (by omega) HV0.out) (h := ?_)
 rintro e wn ⟨rfl, za⟩
 have zf := B.size
 have zg := za.size
 replace B := B.trans (za.mono B.size)
 (try replace r2 := r2.below za)
 (try replace r3 := r3.below za)
 (try replace r4 := r4.below za)
 (try replace e5 := e5.below za)
 (try replace lm := lm.below za)
 (try replace rs1 := rs1.below za)
 (try replace pc := pc.below za)
 (try replace rs := rs.below za)
 refine ⟨_, rfl, ?_⟩
 simp only [zn]
 refine zy 1 ?_
 refine wpList_nil ?_
 clear rs
 go_upto_region 3 with fail
 refine wp_region_lit ?_
 (refine zV rfl (.func (.func 72) #[] #[.pointer (some ⟨b_r3, 0, none⟩)]) (by first | rfl | simp [go_sem, Act.eval]) ?_; simp only [zn])
 (refine zu (t := 114) rfl _ (Xr _ _ rfl) (z6 B ?_); clear B; intro b_f6 wn zb zd f6 za zf zk B; (try have zh := r2.lt); (try replace r2 := r2.below (za.mono zb)); (try have zh := r3.lt); (try replace r3 := r3.below (za.mono zb)); (try have zh := r4.lt); (try replace r4 := r4.below (za.mono zb)); (try have zh := e5.lt); (try replace e5 := e5.below (za.mono zb)); (try have zh := lm.lt); (try replace lm := lm.below (za.mono zb)); (try have zh := rs1.lt); (try replace rs1 := rs1.below (za.mono zb)); (try have zh := pc.lt); (try replace pc := pc.below (za.mono zb)); simp only [zn])
 (refine ZJ rfl _ _ rfl _ rfl _ _ _ rfl f6 (qG B (by omega) ?_); have f6o := f6; clear f6 B; intro wn f6 ze zf zg B; replace rs1 := rs1.chg f6o (by simp) ze; (try replace r2 := r2.of_eq (ze.block _ r2.lt (by omega))); (try replace r3 := r3.of_eq (ze.block _ r3.lt (by omega))); (try replace r4 := r4.of_eq (ze.block _ r4.lt (by omega))); (try replace e5 := e5.of_eq (ze.block _ e5.lt (by omega))); (try replace lm := lm.of_eq (ze.block _ lm.lt (by omega))); (try replace rs1 := rs1.of_eq (ze.block _ rs1.lt (by omega))); (try replace pc := pc.of_eq (ze.block _ pc.lt (by omega))); simp only [zn])
 refine wpList_nil ?_
 have k6 : b_e5 < b_f6 := by have := e5.lt; omega
 go_upto_region 4 with fail
 refine wp_region_lit ?_
 refine zy 2 ?_
 refine wpList_nil ?_
 go_upto_if 23 with fail
 go_cut [] from 22 (fun wx => ∃ (gf : FuncId) (lb : Array Value), zJ 114 wx b_f6 #[.func (.func gf) #[] lb] ∧ Hid (Go.Proofs.Enters Tryz.prog gf) ∧ Hid (∀ (W : World) (p q : Px) (n : Int), zJ 30 W b_r3 (qR (.slice (some ⟨g, o, none⟩) s.pts.length cd) s) → p.ok → (0 ≤ n ∧ n ≤ 255) → chP s p n = q → Calls Tryz.prog gf (#[.agg (ku.enc p), .int .i64 n] ++ lb) W fun e w' => e = .returned (.agg (ku.enc q)) ∧ Below W.heap.size W w') ∧ Below w.heap.size w wx ∧ zJ 64 wx b_r2 #[.slice a ls.length c] ∧ RS (.slice a ls.length c) ls wx ∧ zJ 30 wx b_r3 (qR (.slice (some ⟨g, o, none⟩) s.pts.length cd) s) ∧ zJ 64 wx b_r4 #[.slice none 0 0] ∧ zJ 53 wx b_e5 #[.int .i64 0] ∧ xG wx ∧ zO qQ g o s.pts wx)
 case first =>
  cases hera : s.era with
  | true =>
   have HERA := Lib.hid hera; clear hera; go_upto_region 5 with fail
   refine wp_region_lit ?_
   (refine ZJ rfl _ _ rfl _ rfl _ _ _ rfl f6 (qG B (by omega) ?_); have f6o := f6; clear f6 B; intro wn f6 ze zf zg B; replace rs1 := rs1.chg f6o (by simp) ze; (try replace r2 := r2.of_eq (ze.block _ r2.lt (by omega))); (try replace r3 := r3.of_eq (ze.block _ r3.lt (by omega))); (try replace r4 := r4.of_eq (ze.block _ r4.lt (by omega))); (try replace e5 := e5.of_eq (ze.block _ e5.lt (by omega))); (try replace lm := lm.of_eq (ze.block _ lm.lt (by omega))); (try replace rs1 := rs1.of_eq (ze.block _ rs1.lt (by omega))); (try replace pc := pc.of_eq (ze.block _ pc.lt (by omega))); simp only [zn])
   refine wpList_nil ?_; go_wp2; go_meet; refine ⟨_, _, f6, Lib.hid (enters_of Tryz.func74 (by kernel_rfl) rfl), Lib.hid (fun W p q n h1 h2 h3 h4 => ?_), B, r2, rs1, r3, r4, e5, lm, pc⟩; exact za0 p q n W h3 h2 (by rw [← h4]; unfold chP; rw [HERA.out]; rfl)
  | false =>
   have HERA := Lib.hid hera; clear hera; go_wp2; go_meet; refine ⟨_, _, f6, Lib.hid (enters_of Tryz.func72 (by kernel_rfl) rfl), Lib.hid (fun W p q n h1 h2 h3 h4 => ?_), B, r2, rs1, r3, r4, e5, lm, pc⟩; exact zaZ _ s p q n b_r3 W h1 h2 HCOL.out (by rw [← h4]; unfold chP; rw [HERA.out]; rfl)
 case rest =>
  clear B r2 rs1 r3 r4 e5 lm pc f6; obtain ⟨gf, lb, f6, HEN, HCH, B, r2, rs1, r3, r4, e5, lm, pc⟩ := hcut; obtain ⟨bv, hbv⟩ : ∃ b, qD ls = b := ⟨_, rfl⟩; have HBV := Lib.hid hbv; clear hbv; go_upto_region 6 with fail
  refine wp_region_lit ?_; refine zy 1 ?_
  refine qT (enters_of Tryz.func41 (by kernel_rfl) rfl) (c := za7 _ ls bv _ rs1 TK.out hn HBV.out) (h := ?_); rintro e wn ⟨rfl, za⟩; have zf := B.size; have zg := za.size; replace B := B.trans (za.mono B.size)
  (try replace f6 := f6.below za)
  (try replace r2 := r2.below za)
  (try replace r3 := r3.below za)
  (try replace r4 := r4.below za)
  (try replace e5 := e5.below za)
  (try replace lm := lm.below za)
  (try replace rs1 := rs1.below za)
  (try replace pc := pc.below za)
  refine ⟨_, rfl, ?_⟩; simp only [zn]; refine zy 1 ?_; refine wpList_nil ?_; go_upto_if 26 with fail
  go_cut [] from 22 (fun wx => ∃ (a0 : Option Addr) (c0 : Nat), zJ 114 wx b_f6 #[.func (.func gf) #[] lb] ∧ Below w.heap.size w wx ∧ zJ 64 wx b_r2 #[.slice a0 (ji ls).length c0] ∧ RS (.slice a0 (ji ls).length c0) (ji ls) wx ∧ zJ 30 wx b_r3 (qR (.slice (some ⟨g, o, none⟩) s.pts.length cd) s) ∧ zJ 64 wx b_r4 #[.slice none 0 0] ∧ zJ 53 wx b_e5 #[.int .i64 0] ∧ xG wx ∧ zO qQ g o s.pts wx)
  case first =>
   cases bv with
   | true =>
    go_wp2; go_meet; rw [y8 HBV.out]; exact ⟨_, _, f6, B, r2, rs1, r3, r4, e5, lm, pc⟩
   | false =>
    go_upto_region 7 with fail
    refine wp_region_lit ?_
    (refine zV rfl (.agg #[.slice none 0 0]) (by kernel_rfl) ?_; simp only [zn])
    (refine zq (t := 64) rfl _ _ rfl _ rfl _ rfl r2 (by kernel_rfl) rfl (by simp [Value.oneCell']) (qG B (by omega) ?_); clear r2 B; intro wn r2 ze zf zg B; (try replace f6 := f6.of_eq (ze.block _ f6.lt (by omega))); (try replace r3 := r3.of_eq (ze.block _ r3.lt (by omega))); (try replace r4 := r4.of_eq (ze.block _ r4.lt (by omega))); (try replace e5 := e5.of_eq (ze.block _ e5.lt (by omega))); (try replace lm := lm.of_eq (ze.block _ lm.lt (by omega))); (try replace pc := pc.of_eq (ze.block _ pc.lt (by omega))); simp only [zn])
    refine wpList_nil ?_; go_wp2; go_meet; have hfn : ji ls = [] := by unfold ji; rw [HBV.out]; rfl
    rw [hfn]; exact ⟨_, _, f6, B, r2, RS.nil _, r3, r4, e5, lm, pc⟩
  case rest =>
   clear B r2 rs1 r3 r4 e5 lm pc f6 HBV; obtain ⟨a0, c0, f6, B, r2, rs1, r3, r4, e5, lm, pc⟩ := hcut; have VF := Lib.hid (xm ls); have TF := Lib.hid (kP TK.out); clear TK hn hc; obtain ⟨L0, hL0⟩ : ∃ l, ji ls = l := ⟨_, rfl⟩; rw [hL0] at r2 rs1 VF TF HFIN; clear hL0; have l6 := f6.lt; go_upto_region 8 with fail
   refine wp_region_lit ?_; refine zy 1 ?_
   refine qT (enters_of Tryz.func58 (by kernel_rfl) rfl) (c := zbi _ s _) (h := ?_); rintro e wn ⟨bw, rfl, hbw, r9, za⟩; have zf := B.size; have zg := za.size; replace B := B.trans (za.mono B.size)
   (try replace f6 := f6.below za)
   (try replace r2 := r2.below za)
   (try replace r3 := r3.below za)
   (try replace r4 := r4.below za)
   (try replace e5 := e5.below za)
   (try replace lm := lm.below za)
   (try replace rs1 := rs1.below za)
   (try replace pc := pc.below za)
   refine ⟨_, rfl, ?_⟩; simp only [zn]; refine wpList_nil ?_; have k7 : b_f6 < bw := by omega
   have k8 := r9.lt; obtain ⟨w1, hw1⟩ : ∃ w1, w1 = wn := ⟨_, rfl⟩; rw [← hw1] at B r2 rs1 r3 r4 e5 lm pc f6 r9 k8 ⊢; clear hw1; have hszB := B.size; go_wp2; refine (wpIn_wide (n := 3)).1 ?_; refine Xn (F := Fence.wide) rfl (by omega) (gf := 109) (lb := #[.pointer (some ⟨bw, 0, none⟩)]) rfl trivial (enters_of Tryz.func109 (by kernel_rfl) rfl) (QU s HVS.out g o cd bw b_r2 w1.heap.size _ (by omega) _ r9 hcd pc (by omega) (by omega) (by omega) (by omega) (Nat.le_refl _)) (fun h k => u7.trans h k) (fun W l o o' hl ho hc _ => u7.putObj W l o o' hl ho hc) (fun A B h => u7.below h) (Below.refl _ _) (fun _ => rfl)
    (fun pre W => ∃ (a1 : Option Addr) (c1 : Nat) (M : List TA), Hid (xU s (pre.map (fun i => xg s i.val)) L0 = (M, 0)) ∧ zJ 64 W b_r2 #[.slice a1 M.length c1] ∧ RS (.slice a1 M.length c1) M W ∧ zJ 30 W b_r3 (qR (.slice (some ⟨g, o, none⟩) s.pts.length cd) s) ∧ zJ 64 W b_r4 #[.slice none 0 0] ∧ zJ 53 W b_e5 #[.int .i64 0] ∧ zJ 114 W b_f6 #[.func (.func gf) #[] lb] ∧ xG W ∧ Below w.heap.size w W)
    (fun pre W => ∃ (E : Int), Hid ((xU s (pre.map (fun i => xg s i.val)) L0).2 = E ∧ E ≠ 0) ∧ zJ 64 W b_r4 #[.slice none 0 0] ∧ zJ 53 W b_e5 #[.int .i64 E] ∧ Below w.heap.size w W)
    (fun pre W W' row hI hg hr => ?own) (fun pre W W' row hI hg hr => ?ownX)
    ⟨a0, c0, L0, Lib.hid rfl, r2, rs1, r3, r4, e5, f6, lm, B⟩
    (fun x a' W => ∃ b7 : Nat, a'.defers = [] ∧ a'.tmps.size = 99 ∧ a'.tmps.getD 2 undef = .pointer (some ⟨b_r2, 0, none⟩) ∧ a'.tmps.getD 3 undef = .pointer (some ⟨b_r3, 0, none⟩) ∧ a'.tmps.getD 4 undef = .pointer (some ⟨b_r4, 0, none⟩) ∧ a'.tmps.getD 5 undef = .pointer (some ⟨b_e5, 0, none⟩) ∧ a'.tmps.getD 6 undef = .pointer (some ⟨b_f6, 0, none⟩) ∧ a'.tmps.getD 7 undef = .pointer (some ⟨b7, 0, none⟩) ∧ zJ 45 W b7 (vj.enc (xg s x.val)) ∧ b_f6 < b7)
    (fun x a' W W' row hA hg hr => ?own2) ?assign ?body ?done ?stop
   case own =>
    obtain ⟨a1, c1, M, h0, h1, h2, h3, h4, h5, h6, h7, h8⟩ := hI; have hne : ∀ b, b < w1.heap.size → row ≠ some b := fun b hb e => by have := (hr _ e).1; omega
    refine ⟨a1, c1, M, h0, h1.grown hg (hne _ (by omega)), h2.own3 hg (fun r e => ?_), h3.grown hg (hne _ (by omega)), h4.grown hg (hne _ (by omega)), h5.grown hg (hne _ (by omega)), h6.grown hg (hne _ (by omega)), h7.of_eq (hg.block _ h7.lt (fun e => hne _ (by omega) e.symm)), kN h8 h8.size hg (fun r e => Nat.le_trans hszB (hr r e).1)⟩; rcases (hr r e).2 with h | ⟨_, h⟩
    ·exact .inl h
    ·exact .inr h
   case ownX =>
    obtain ⟨E, h0, h4, h5, h8⟩ := hI; have hne : ∀ b, b < w1.heap.size → row ≠ some b := fun b hb e => by have := (hr _ e).1; omega
    exact ⟨E, h0, h4.grown hg (hne _ (by omega)), h5.grown hg (hne _ (by omega)), kN h8 h8.size hg (fun r e => Nat.le_trans hszB (hr r e).1)⟩
   case own2 =>
    obtain ⟨b7, e1, e2, e3, e4, e5', e6, e7, e8, h1, h2⟩ := hA; exact ⟨b7, e1, e2, e3, e4, e5', e6, e7, e8, h1.own hg (fun r e => (hr r e).2), h2⟩
   case assign =>
    intro l pre x W K ⟨_, _, _, _, _, _, _, _, _, hl6, _⟩ hbig hK; have B := Below.refl W.heap.size W; have hl := hl6.lt; obtain ⟨D, hD⟩ : ∃ p, xg s x.val = p := ⟨_, rfl⟩; rw [hD] at hK; rw [hD]
    dsimp only
    refine XK ?_; simp only [List.setIfInBounds_toArray, List.set_cons_succ, List.set_cons_zero]; refine zB (by kernel_rfl) ?_
    (refine zu (t := 45) rfl _ (yX _ _ rfl) (z6 B ?_); clear B; intro b_d7 wn zb zd d7 za zf zk B; simp only [zn])
    (refine zq (t := 45) rfl _ _ rfl _ rfl _ rfl d7 (by kernel_rfl) rfl (by simp [vj, Value.oneCell']) (qG B (by omega) ?_); clear d7 B; intro wn d7 ze zf zg B; simp only [zn])
    refine wpList_nil ?_; refine qt.at ?_; refine hK _ _ B ⟨_, rfl, rfl, rfl, rfl, rfl, rfl, rfl, rfl, d7, by omega⟩
   case stop =>
    rintro D pre W hD ⟨k, rfl⟩ ⟨E, HE, r4, e5, BW⟩ hDD; have kd : yE W D := hDD; have hE := WV s k L0 HE.out.1 HE.out.2; rw [← HFIN.out] at hE; have HEQ := Lib.hid hE; clear hE; have BF := BW.trans (belowK_b (w := w) (Nat.le_refl _) W D _ (.deferred none) (by omega) kd rfl rfl); refine ⟨by simp, .inl ⟨_, _, rfl, run_takeDeferred kd, ?_⟩⟩; refine ⟨_, xq (t := 64) (u := 53) rfl _ _ b_r4 b_e5 rfl rfl ((World.putObj_heap_other (fun e => kd.ne r4 (by omega))).trans r4) (j0 ((World.putObj_heap_other (fun e => kd.ne e5 (by omega))).trans e5)) Tryz.isAgg64 (by kernel_rfl), ?_⟩; rw [HEQ.out]; exact ⟨none, 0, rfl, RS.nil _, BF⟩
   case done =>
    rintro D xs W hD rfl ⟨a1, c1, M, HM, r2, rs1, r3, r4, e5, f6, lm, BW⟩ hDD; have kd : yE W D := hDD; have hM := HM.out; rw [Qo] at hM; have hval := (uo HCOL.out (xO s) VF.out TF.out).1; rw [hM] at hval; rw [← HFIN.out] at hM; have hMn := (xN.1 hval).1
    dsimp only at hMn
    have HEQ := Lib.hid hM; have B := BW; have hwD : w.heap.size ≤ D := by omega
    have hne := kd.ne r4; have hne5 := kd.ne e5; clear BW r3 f6 lm hD hval hM; go_upto_region 28 with fail
    refine wp_region_lit ?_; refine zy 2 ?_
    refine qT (enters_of Tryz.func78 (by kernel_rfl) rfl) (c := xZ _ M _ rs1 (by omega)) (h := ?_); rintro e wn ⟨v2, b2, rfl, _, _, od2, za⟩; have zf := B.size; have zg := za.size; replace B := B.trans (za.mono B.size)
    (try replace r2 := r2.below za)
    (try replace r4 := r4.below za)
    (try replace e5 := e5.below za)
    (try replace kd := kd.below za)
    have rs2 := od2.rs; clear od2; obtain ⟨a2, c2, rfl, hc2⟩ := rs2.len; refine ⟨_, rfl, ?_⟩; simp only [zn]; refine zy 1 ?_
    (refine zq (t := 64) rfl _ _ rfl _ rfl _ rfl r4 (by kernel_rfl) rfl (by simp [Value.oneCell']) (qG B (by omega) ?_); have r4o := r4; clear r4 B; intro wn r4 ze zf zg B; (try replace rs2 := rs2.chg r4o (by simp) ze); (try replace r2 := r2.of_eq (ze.block _ r2.lt (by omega))); (try replace e5 := e5.of_eq (ze.block _ e5.lt (by omega))); (try replace kd := kd.of_eq (ze.block _ kd.lt (by omega))); simp only [zn])
    (refine wy rfl _ _ rfl _ rfl _ rfl e5 (qG B (by omega) ?_); have e5o := e5; clear e5 B; intro wn e5 ze zf zg B; replace rs2 := rs2.chg e5o (by simp) ze; (try replace r2 := r2.of_eq (ze.block _ r2.lt (by omega))); (try replace r4 := r4.of_eq (ze.block _ r4.lt (by omega))); (try replace kd := kd.of_eq (ze.block _ kd.lt (by omega))); simp only [zn])
    refine wpList_nil ?_; go_wp2; refine ⟨by simp, .inl ⟨_, _, rfl, run_takeDeferred kd, ?_⟩⟩; refine ⟨_, xq (t := 64) (u := 53) rfl _ _ b_r4 b_e5 rfl rfl ((World.putObj_heap_other (fun e => hne (by omega))).trans r4) (j0 ((World.putObj_heap_other (fun e => hne5 (by omega))).trans e5)) Tryz.isAgg64 (by kernel_rfl), ?_⟩; have BF := B.trans (belowK_b (w := w) (Nat.le_refl _) wn D _ (.deferred none) hwD kd rfl rfl); rw [HEQ.out]; exact ⟨_, _, rfl, rs2.own (grownBy_putObj' _ _ _) (fun r e => by cases e; exact ⟨_, kd, rfl⟩), BF⟩
   case body =>
    rintro l pre x W ⟨tm, df⟩ ⟨a1, c1, M, HM, r2, rs1, r3, r4, e5, f6, lm, BW⟩ ⟨b7, e1, e2, e3, e4, e5', e6, e7, e8, p7, k10⟩ hpre; obtain ⟨U, hU, hUi⟩ := Kv tm 99 e2
    dsimp only at e3 e4 e5' e6 e7 e8
    rw [← hUi] at e3 e4 e5' e6 e7 e8; have eL : ((List.range 99).map U).toArray = #[U 0, U 1, U 2, U 3, U 4, U 5, U 6, U 7, U 8, U 9, U 10, U 11, U 12, U 13, U 14, U 15, U 16, U 17, U 18, U 19, U 20, U 21, U 22, U 23, U 24, U 25, U 26, U 27, U 28, U 29, U 30, U 31, U 32, U 33, U 34, U 35, U 36, U 37, U 38, U 39, U 40, U 41, U 42, U 43, U 44, U 45, U 46, U 47, U 48, U 49, U 50, U 51, U 52, U 53, U 54, U 55, U 56, U 57, U 58, U 59, U 60, U 61, U 62, U 63, U 64, U 65, U 66, U 67, U 68, U 69, U 70, U 71, U 72, U 73, U 74, U 75, U 76, U 77, U 78, U 79, U 80, U 81, U 82, U 83, U 84, U 85, U 86, U 87, U 88, U 89, U 90, U 91, U 92, U 93, U 94, U 95, U 96, U 97, U 98] := rfl; rw [eL] at hU; rw [e3, e4, e5', e6, e7, e8] at hU; subst hU; have e1 : df = [] := e1; subst e1; clear e2 e3 e4 e5' e6 e7 e8 hUi eL; have hval := uo HCOL.out (pre.map (fun i => xg s i.val)) VF.out TF.out; have HST0 : xU s ((pre ++ [x]).map (fun i => xg s i.val)) L0 = xk s (M, 0) (xg s x.val) := by
     rw [List.map_append]; show xU s (pre.map (fun i => xg s i.val) ++ [xg s x.val]) L0 = _
     rw [WU, HM.out]
    rw [HM.out] at hval; have VM := Lib.hid hval.1; have TM := Lib.hid hval.2; have hMn := (xN.1 hval.1).1
    dsimp only at hMn
    have OKD := Lib.hid (VD HVS.out x.isLt)
    generalize hD : xg s x.val = D at *
    obtain ⟨o1, o2, o3, o4, o5, o6⟩ := OKD.out; have HST := Lib.hid HST0; clear hD HST0 hval HM; obtain ⟨qs, hqs⟩ : ∃ q, vt D = q := ⟨_, rfl⟩; obtain ⟨c, hcc⟩ : ∃ q, ZN D = q := ⟨_, rfl⟩; have HQS := Lib.hid hqs; have HC0 := Lib.hid hcc; have HC := Lib.hid (show vm qs Xe = c from by rw [← hqs, ← hcc]; rfl)
    clear hqs hcc; have R2W := Lib.hid r2; have RS1W := Lib.hid rs1; have R4W := Lib.hid r4; have E5W := Lib.hid e5; have LMW := Lib.hid lm; have BWW := Lib.hid BW; have hws := BW.size; have l2 := r2.lt; have l3 := r3.lt; have l4 := r4.lt; have l5 := e5.lt; have l6 := f6.lt; have l7 := p7.lt; have l0 := lm.lt; have B := Below.refl W.heap.size W; clear rs1 r4 e5 BW; gi_upto_region 10 with fail
    try have lx_r2 := r2.lt
    try have lx_r3 := r3.lt
    try have lx_f6 := f6.lt
    try have lx_lm := lm.lt
    try have lx_p7 := p7.lt
    refine YM (by kernel_rfl) 5 [(1, zE ?v1_1), (3, zE ?v1_3), (4, zd8 (W.heap.size) 38 #[.int .i64 0, .int .i64 0, .int .i64 0, .int .i64 0])] (by kernel_rfl) (by kernel_rfl) (by kernel_rfl) ?_
    rotate_left 2
    simp only [jK, Nat.reduceAdd]; refine vT 1 ?_
    refine zz (by rfl) (by first | rfl | simp [Region.wanted, yielded]) ?_ ?_
    ·intro wn za hE Kx hKx
     have zf := B.size; have zg := za.size; replace B := B.trans (za.mono B.size)
     (try replace r2 := r2.below za)
     (try replace r3 := r3.below za)
     (try replace f6 := f6.below za)
     (try replace lm := lm.below za)
     (try replace p7 := p7.below za)
     refine zG rfl (enters_of Tryz.func62 (by kernel_rfl) rfl) (by simp only [Act.eval, qo]; rfl) ?_
     refine (yG D qs wn (by omega) (by omega) (by omega) HQS.out).mono ?_; rintro e wm ⟨rfl, zl⟩; refine ⟨_, rfl, ?_⟩; have hz := hKx () wm trivial zl
     dsimp only [zE] at hz
     exact hz
    rintro ⟨⟩
    dsimp only [zE]
    simp only [zn]; refine xM 1 ?_; repeat (first | go_big_quiet_skip | (go_big_quiet_want; first | ((first | refine zo (t := 38) rfl _ _ _ rfl (fun w hw => uY (zca lm w hw)) (by first | rfl | omega) ?_ | refine qB ?_ | refine qC ?_); simp only [zn]; go_big_quiet_on) | (go_big_quiet_op; go_big_quiet_on)))
    refine wpQuiet_nil ?_; refine zz (by rfl) (by first | rfl | simp [Region.wanted, yielded]) ?_ ?_
    ·intro wn za hE Kx hKx
     have zf := B.size; have zg := za.size; replace B := B.trans (za.mono B.size)
     (try replace r2 := r2.below za)
     (try replace r3 := r3.below za)
     (try replace f6 := f6.below za)
     (try replace lm := lm.below za)
     (try replace p7 := p7.below za)
     refine zG rfl (enters_of Tryz.func46 (by kernel_rfl) rfl) (by simp only [Act.eval, qo]; rfl) ?_
     refine (XS qs Xe c wn HC.out).mono ?_; rintro e wm ⟨rfl, zl⟩; refine ⟨_, rfl, ?_⟩; have hz := hKx () wm trivial zl
     dsimp only [zE] at hz
     exact hz
    rintro ⟨⟩
    dsimp only [zE]
    simp only [zn]; refine zz (by rfl) (by first | rfl | simp [Region.wanted, yielded]) ?_ ?_
    ·intro wn za hE Kx hKx
     have zf := B.size; have zg := za.size; replace B := B.trans (za.mono B.size)
     (try replace r2 := r2.below za)
     (try replace r3 := r3.below za)
     (try replace f6 := f6.below za)
     (try replace lm := lm.below za)
     (try replace p7 := p7.below za)
     refine zR (t := 38) _ (zZ _ _ rfl) ?_; intro b wm h1 h2 ht zl zm; exact hKx b wm ⟨Nat.le_trans za.size h1, ht⟩ (zl.mono h1)
    rintro b_c8
    dsimp only [zE, zd8]
    simp only [zn]; refine zY ?_; intro wn za hE; have zf := B.size; have zg := za.size; replace B := B.trans (za.mono B.size)
    (try replace r2 := r2.below za)
    (try replace r3 := r3.below za)
    (try replace f6 := f6.below za)
    (try replace lm := lm.below za)
    (try replace p7 := p7.below za)
    obtain ⟨hge_c8, c8⟩ : _ ∧ zJ _ _ _ _ := hE 4; clear hE; try simp only [List.drop_succ_cons, List.drop_zero]
    (refine zq (t := 38) rfl _ _ rfl _ rfl _ rfl c8 (by kernel_rfl) rfl (by simp [j4, Value.oneCell']) (qG B (by omega) ?_); clear c8 B; intro wn c8 ze zf zg B; (try replace r2 := r2.of_eq (ze.block _ r2.lt (by omega))); (try replace r3 := r3.of_eq (ze.block _ r3.lt (by omega))); (try replace f6 := f6.of_eq (ze.block _ f6.lt (by omega))); (try replace lm := lm.of_eq (ze.block _ lm.lt (by omega))); (try replace p7 := p7.of_eq (ze.block _ p7.lt (by omega))); simp only [zn])
    refine wpList_nil ?_; refine zN.normal ?_; refine qt.at ?_; try dsimp only
    replace c8 : zJ 38 _ b_c8 (j4 c) := c8; have k11 : W.heap.size ≤ b_c8 := by omega
    by_cases hr1 : D.r < 1
    ·have q1 : decide (D.r < 1) = true := decide_eq_true hr1
     gi_upto_region 11 with fail
     refine zB (by kernel_rfl) ?_; refine zy 5 ?_
     refine qF ?hs11_5 ?_
     case hs11_5 => kernel_rfl
     simp only [zn]; refine zy 1 ?_; refine wpList_nil ?_; refine qt.at ?_; try dsimp only
     gi_wp2
     refine ⟨KeepsOthers.below B, u7.below B, a1, c1, M, Lib.hid ?_, r2, RS1W.out.below B, r3, R4W.out.of_eq (B.block _ l4), E5W.out.of_eq (B.block _ l5), f6, lm, BWW.out.trans (B.mono hws)⟩; rw [HST.out]; exact wH s _ (by unfold Wj; rw [q1]; rfl)
    ·have q1 : decide (D.r < 1) = false := decide_eq_false hr1
     cases hem : qA c with
     | true =>
      have HEM := Lib.hid hem; clear hem; gi_upto_region 11 with fail
      refine zB (by kernel_rfl) ?_; refine zy 5 ?_
      refine qT (enters_of Tryz.func45 (by kernel_rfl) rfl) (c := Qa c true _ HEM.out) (h := ?_); rintro e wn ⟨rfl, za⟩; have zf := B.size; have zg := za.size; replace B := B.trans (za.mono B.size)
      (try replace r2 := r2.below za)
      (try replace r3 := r3.below za)
      (try replace f6 := f6.below za)
      (try replace lm := lm.below za)
      (try replace p7 := p7.below za)
      (try replace c8 := c8.below za)
      refine ⟨_, rfl, ?_⟩; simp only [zn]; refine zy 1 ?_; refine wpList_nil ?_; refine qt.at ?_; try dsimp only
      gi_wp2
      refine ⟨KeepsOthers.below B, u7.below B, a1, c1, M, Lib.hid ?_, r2, RS1W.out.below B, r3, R4W.out.of_eq (B.block _ l4), E5W.out.of_eq (B.block _ l5), f6, lm, BWW.out.trans (B.mono hws)⟩; rw [HST.out]; exact wH s _ (by unfold Wj; rw [HC0.out, HEM.out]; simp)
     | false =>
      have HSK : Wj D = false := by unfold Wj; rw [HC0.out, hem, q1]; rfl
      have HEM := Lib.hid hem; clear hem; obtain ⟨HE1, HF1⟩ := XD OKD.out HSK; rw [HC0.out] at HE1 HF1; have HST2 : xU s ((pre ++ [x]).map (fun i => xg s i.val)) L0 = (kU c (vO s D M) M, uP c (vO s D M) M) := by rw [HST.out, J9 s HSK, HC0.out]
      have HIL : vO s D M = ke c (fun x y => Xa s (vK D x y) (xT M x y)) := by unfold vO; rw [HC0.out]
      have okI : Wv (vO s D M) := VO HCOL.out D TM.out; have hIn : (vO s D M).length = areaN c := by rw [Qt, HC0.out]
      have HE0 := Lib.hid HE1; have HFit := Lib.hid HF1; have HA := Lib.hid (ZX HF1); have HAW := Lib.hid (x5 HF1).1; obtain ⟨f1, f2, f3, f4, f5, f6', f7, f8⟩ := HF1; have hwid : (widN c : Int) = c.x1 - c.x0 := by unfold widN; omega
      obtain ⟨Wd, hWd⟩ : ∃ n, widN c = n := ⟨_, rfl⟩; rw [hWd] at hwid; have HWD := Lib.hid hWd; clear hWd HE1; obtain ⟨I, hI⟩ : ∃ l, vO s D M = l := ⟨_, rfl⟩; rw [hI] at HST2 HIL okI hIn; have HS2 := Lib.hid HST2; have HI := Lib.hid HIL; have OKI := Lib.hid okI; clear HST2 HIL okI hI HSK HST; obtain ⟨R', hR'⟩ : ∃ l, kU c I M = l := ⟨_, rfl⟩; obtain ⟨E, hE⟩ : ∃ e, uP c I M = e := ⟨_, rfl⟩; have HR' := Lib.hid hR'; have HEe := Lib.hid hE; clear hR' hE; gi_upto_region 11 with fail
      refine zB (by kernel_rfl) ?_; refine zy 5 ?_
      refine qT (enters_of Tryz.func45 (by kernel_rfl) rfl) (c := Qa c false _ HEM.out) (h := ?_); rintro e wn ⟨rfl, za⟩; have zf := B.size; have zg := za.size; replace B := B.trans (za.mono B.size)
      (try replace r2 := r2.below za)
      (try replace r3 := r3.below za)
      (try replace f6 := f6.below za)
      (try replace lm := lm.below za)
      (try replace p7 := p7.below za)
      (try replace c8 := c8.below za)
      refine ⟨_, rfl, ?_⟩; simp only [zn]; refine zy 1 ?_; refine wpList_nil ?_; refine qt.at ?_; try dsimp only
      have rs1 := RS1W.out.below B; have hc8 := c8.lt; have hszW := B.size; gi_upto_region 12 with fail
      refine zB (by kernel_rfl) ?_; refine zy 2 ?_
      refine qT (enters_of Tryz.func76 (by kernel_rfl) rfl) (c := XQ _ M c _ rs1 TM.out VM.out HE0.out) (h := ?_); rintro e wn ⟨cb, hcb, rfl, row, za⟩; have zf := B.size; have zg := za.size; replace B := B.trans (za.mono B.size)
      (try replace r2 := r2.below za)
      (try replace r3 := r3.below za)
      (try replace f6 := f6.below za)
      (try replace lm := lm.below za)
      (try replace p7 := p7.below za)
      (try replace c8 := c8.below za)
      (try replace row := row.below za)
      have kcb : W.heap.size ≤ cb := by omega
      have kc8 : @LT.lt Nat _ b_c8 cb := by omega
      clear rs1; refine ⟨_, rfl, ?_⟩; simp only [zn]; refine zy 3 ?_
      (have _ := row.lt; refine zu (t := 117) rfl _ (yj _ _ rfl) (z6 B ?_); clear B; intro b_i9 wn zb zd i9 za zf zk B; (try have zh := r2.lt); (try replace r2 := r2.below (za.mono zb)); (try have zh := r3.lt); (try replace r3 := r3.below (za.mono zb)); (try have zh := f6.lt); (try replace f6 := f6.below (za.mono zb)); (try have zh := lm.lt); (try replace lm := lm.below (za.mono zb)); (try have zh := p7.lt); (try replace p7 := p7.below (za.mono zb)); (try have zh := c8.lt); (try replace c8 := c8.below (za.mono zb)); (try have zh := row.lt); (try replace row := row.below (za.mono zb)); simp only [zn])
      (refine zq (t := 117) rfl _ _ rfl _ rfl _ rfl i9 (by kernel_rfl) rfl (by simp [xo, Value.oneCell']) (qG B (by omega) ?_); clear i9 B; intro wn i9 ze zf zg B; (try replace r2 := r2.of_eq (ze.block _ r2.lt (by omega))); (try replace r3 := r3.of_eq (ze.block _ r3.lt (by omega))); (try replace f6 := f6.of_eq (ze.block _ f6.lt (by omega))); (try replace lm := lm.of_eq (ze.block _ lm.lt (by omega))); (try replace p7 := p7.of_eq (ze.block _ p7.lt (by omega))); (try replace c8 := c8.of_eq (ze.block _ c8.lt (by omega))); (try replace row := row.of_eq (ze.block _ row.lt (by omega))); simp only [zn])
      refine zy 1 ?_; refine wpList_nil ?_; refine qt.at ?_; try dsimp only
      replace i9 : zJ 117 _ b_i9 (xo c (.slice (some ⟨cb, 0, none⟩) (areaN c) (areaN c))) := i9; have kci : b_i9 ≠ cb := by omega
      clear lm r2; gi_upto_region 13 with fail
      refine zB (by kernel_rfl) ?_; refine zy 1 ?_; refine wpList_nil ?_; refine qt.at ?_; try dsimp only
      gi_upto_region 14 with fail
      refine zB (by kernel_rfl) ?_; refine zy 3 ?_
      refine wpList_nil ?_; refine qt.at ?_; try dsimp only
      gi_wp2
      gi_loopw [11, 12, 13, 14] (fun kv yv _ _ wr => ∃ (i k : Nat) (R : List Px), (i : Int) ≤ c.y1 - c.y0 ∧ Hid (k = i * Wd) ∧ kv = .int .i64 (k : Int) ∧ yv = .int .i64 (c.y0 + (i : Int)) ∧ Hid (kG c (fun x y => Xa s (vK D x y) (xT M x y)) (fun x y => xT M x y) k = R) ∧ Below W.heap.size W wr ∧ zJ 45 wr b7 (vj.enc D) ∧ zJ 38 wr b_c8 (j4 c) ∧ zJ 117 wr b_i9 (xo c (.slice (some ⟨cb, 0, none⟩) (areaN c) (areaN c))) ∧ zJ 114 wr b_f6 #[.func (.func gf) #[] lb] ∧ zJ 30 wr b_r3 (qR (.slice (some ⟨g, o, none⟩) s.pts.length cd) s) ∧ jw ku wr cb R) (fun _ yv _ _ _ => (c.y1 - intOf yv).toNat)
      case atStart => exact ⟨0, 0, _, by omega, Lib.hid (by rw [Nat.zero_mul]), rfl, by rw [Int.natCast_zero, Int.add_zero], Lib.hid (WX c M _), B, p7, c8, i9, f6, r3, row⟩
      case round =>
       clear B p7 c8 i9 f6 r3 row; obtain ⟨i, k, R, hi, HK, rfl, rfl, HR, B, p7, c8, i9, f6, r3, row⟩ := hrel; by_cases hi1 : (i : Int) < c.y1 - c.y0
       ·have q2 : decide (c.y0 + (i : Int) < c.y1) = true := decide_eq_true (by omega)
        gi_upto_region 15 with fail
        refine zB (by kernel_rfl) ?_; refine zy 4 ?_
        refine wpList_nil ?_; refine qt.at ?_; try dsimp only
        gi_upto_region 17 with fail
        refine zB (by kernel_rfl) ?_; refine zy 3 ?_
        refine wpList_nil ?_; refine qt.at ?_; try dsimp only
        gi_wp2
        gi_loopw [11, 13, 14] (fun kv xv _ wr => ∃ (j k : Nat) (R : List Px), (j : Int) ≤ c.x1 - c.x0 ∧ Hid (k = i * Wd + j) ∧ kv = .int .i64 (k : Int) ∧ xv = .int .i64 (c.x0 + (j : Int)) ∧ Hid (kG c (fun x y => Xa s (vK D x y) (xT M x y)) (fun x y => xT M x y) k = R) ∧ Below W.heap.size W wr ∧ zJ 45 wr b7 (vj.enc D) ∧ zJ 38 wr b_c8 (j4 c) ∧ zJ 117 wr b_i9 (xo c (.slice (some ⟨cb, 0, none⟩) (areaN c) (areaN c))) ∧ zJ 114 wr b_f6 #[.func (.func gf) #[] lb] ∧ zJ 30 wr b_r3 (qR (.slice (some ⟨g, o, none⟩) s.pts.length cd) s) ∧ jw ku wr cb R) (fun _ xv _ _ => (c.x1 - intOf xv).toNat)
        case atStart => exact ⟨0, k, R, by omega, Lib.hid (by rw [Nat.add_zero]; exact HK.out), rfl, by rw [Int.natCast_zero, Int.add_zero], HR, B, p7, c8, i9, f6, r3, row⟩
        case round =>
         clear B p7 c8 i9 f6 r3 row HR HK; obtain ⟨j, k, R, hj, HK, rfl, rfl, HR, B, p7, c8, i9, f6, r3, row⟩ := hrel; by_cases hj1 : (j : Int) < c.x1 - c.x0
         ·have q3 : decide (c.x0 + (j : Int) < c.x1) = true := decide_eq_true (by omega)
          have hat := zbW HFit.out (fun x y => Xa s (vK D x y) (xT M x y)) (fun x y => xT M x y) (i := i) (j := j) hj1 hi1; rw [HWD.out] at hat; simp only [← Nat.add_assoc, ← HK.out] at hat; obtain ⟨hka, hp, hset, hsame⟩ := hat; have okp : (xT M (c.x0 + (j : Int)) (c.y0 + (i : Int))).ok := kY TM.out _ _ _ (by omega); obtain ⟨p, hpe⟩ : ∃ p, xT M (c.x0 + (j : Int)) (c.y0 + (i : Int)) = p := ⟨_, rfl⟩; obtain ⟨n, hn⟩ : ∃ n, vK D (c.x0 + (j : Int)) (c.y0 + (i : Int)) = n := ⟨_, rfl⟩; have hnb := zdu D (c.x0 + (j : Int)) (c.y0 + (i : Int)); rw [hpe] at hp hset hsame okp; rw [hn] at hset hsame hnb; rw [HR.out] at hp hset hsame; have HN := Lib.hid hn; have OKP := Lib.hid okp; have hRl : R.length = areaN c := by rw [← HR.out]; exact zbT _ _ _ _
          have hA2 := HA.out; have hkR : k < R.length := by omega
          have HP := Lib.hid hp; clear hn hpe okp hp; gi_upto_region 18 with fail
          refine zB (by kernel_rfl) ?_; refine zy 4 ?_
          refine wpList_nil ?_; refine qt.at ?_; try dsimp only
          gi_upto_region 20 with fail
          refine zB (by kernel_rfl) ?_; refine zy 3 ?_
          refine qT (enters_of Tryz.func24 (by kernel_rfl) rfl) (c := Vh D (c.x0 + (j : Int)) (c.y0 + (i : Int)) n _ (by omega) (by omega) (by omega) HN.out) (h := ?_); rintro e wn ⟨rfl, za⟩; have zf := B.size; have zg := za.size; replace B := B.trans (za.mono B.size)
          (try replace p7 := p7.below za)
          (try replace c8 := c8.below za)
          (try replace i9 := i9.below za)
          (try replace f6 := f6.below za)
          (try replace r3 := r3.below za)
          (try replace row := row.below za)
          refine ⟨_, rfl, ?_⟩; simp only [zn]; refine zy 1 ?_; refine wpList_nil ?_; refine qt.at ?_; try dsimp only
          by_cases hn0 : 0 < n
          ·have q4 : decide (0 < n) = true := decide_eq_true hn0
           have q4' : decide (n > 0) = true := decide_eq_true hn0; obtain ⟨q, hq⟩ : ∃ q, chP s p n = q := ⟨_, rfl⟩; rw [VP, if_pos hn0, hq] at hset; have HQ := Lib.hid hq; have HSET := Lib.hid hset; clear hq hset hsame; gi_upto_region 21 with fail
           refine zB (by kernel_rfl) ?_; refine zy 2 ?_; refine wpList_nil ?_; refine qt.at ?_; try dsimp only
           have rc := row.cells; have q5 : decide ((k : Int) < (areaN c : Int)) = true := decide_eq_true (by omega); have q6 : decide (k < areaN c) = true := decide_eq_true hka; gi_upto_region 22 with fail
           try have lx_p7 := p7.lt
           try have lx_c8 := c8.lt
           try have lx_i9 := i9.lt
           try have lx_f6 := f6.lt
           try have lx_r3 := r3.lt
           try have lx_row := row.lt
           try have lx_rc := rc.lt
           refine YM (by kernel_rfl) 12 [(10, zE ?v2_10)] (by kernel_rfl) (by kernel_rfl) (by kernel_rfl) ?_
           rotate_left 1
           simp only [jK, Nat.reduceAdd]; refine xM 10 ?_; repeat (first | go_big_quiet_skip | (go_big_quiet_want; first | ((first | refine zo (t := 115) rfl _ _ _ rfl (fun w hw => j1 (um (zD i9 w hw))) (by first | rfl | omega) ?_ | refine zo (t := 114) rfl _ _ _ rfl (fun w hw => YT (zD f6 w hw)) (by rfl) ?_ | refine zo (t := 28) rfl _ _ _ rfl (fun w hw => (jb rc w hw).load Tryz.isAgg28 HP.out) (by first | rfl | omega) ?_ | refine qB ?_ | refine qC ?_); simp only [zn]; go_big_quiet_on) | (go_big_quiet_op; go_big_quiet_on)))
           refine wpQuiet_nil ?_; refine zz (by rfl) (by first | rfl | simp [Region.wanted, yielded]) ?_ ?_
           ·intro wn za hE Kx hKx
            have zf := B.size; have zg := za.size; replace B := B.trans (za.mono B.size)
            (try replace p7 := p7.below za)
            (try replace c8 := c8.below za)
            (try replace i9 := i9.below za)
            (try replace f6 := f6.below za)
            (try replace r3 := r3.below za)
            (try replace row := row.below za)
            (try replace rc := rc.below za)
            refine Ke rfl (by simp only [Act.eval, qo]; rfl) HEN.out (by simp only [Act.eval, qo]; rfl) ?_
            refine (HCH.out wn p q n r3 OKP.out hnb HQ.out).mono ?_; rintro e wm ⟨rfl, zl⟩; refine ⟨_, rfl, ?_⟩; have hz := hKx () wm trivial zl
            dsimp only [zE] at hz
            exact hz
           rintro ⟨⟩
           dsimp only [zE]
           simp only [zn]; refine vT 1 ?_; refine zY ?_; intro wn za hE; have zf := B.size; have zg := za.size; replace B := B.trans (za.mono B.size)
           (try replace p7 := p7.below za)
           (try replace c8 := c8.below za)
           (try replace i9 := i9.below za)
           (try replace f6 := f6.below za)
           (try replace r3 := r3.below za)
           (try replace row := row.below za)
           (try replace rc := rc.below za)
           clear hE; try simp only [List.drop_succ_cons, List.drop_zero]
           clear rc
           (refine vJ rfl _ _ rfl _ _ rfl q rfl row k hkR (by first | rfl | omega) (qG B (by omega) ?_); clear row B; intro wn row ze zf zg B; (try replace p7 := p7.of_eq (ze.block _ p7.lt (by omega))); (try replace c8 := c8.of_eq (ze.block _ c8.lt (by omega))); (try replace i9 := i9.of_eq (ze.block _ i9.lt (by omega))); (try replace f6 := f6.of_eq (ze.block _ f6.lt (by omega))); (try replace r3 := r3.of_eq (ze.block _ r3.lt (by omega))); simp only [zn])
           refine wpList_nil ?_; refine zN.normal ?_; refine qt.at ?_; try dsimp only
           rw [HSET.out] at row; gi_upto_region 23 with fail
           refine zB (by kernel_rfl) ?_; refine zy 3 ?_; refine wpList_nil ?_; refine qt.at ?_; try dsimp only
           gi_upto_region 19 with fail
           refine zB (by kernel_rfl) ?_; refine zy 3 ?_; refine wpList_nil ?_; refine qt.at ?_; try dsimp only
           gi_wp2
           go_roundw
           case rel => exact ⟨j + 1, k + 1, _, by omega, Lib.hid (by rw [HK.out, Nat.add_assoc]), by go_num, by go_num, Lib.hid rfl, B, p7, c8, i9, f6, r3, row⟩
           case measure => simp [intOf]; omega
          ·have q4 : decide (0 < n) = false := decide_eq_false hn0
           have q4' : decide (n > 0) = false := decide_eq_false hn0; rw [VP, if_neg hn0] at hsame; have HSAME := Lib.hid (hsame rfl); clear hset hsame; gi_upto_region 21 with fail
           refine zB (by kernel_rfl) ?_; refine zy 2 ?_; refine wpList_nil ?_; refine qt.at ?_; try dsimp only
           gi_upto_region 23 with fail
           refine zB (by kernel_rfl) ?_; refine zy 3 ?_; refine wpList_nil ?_; refine qt.at ?_; try dsimp only
           gi_upto_region 19 with fail
           refine zB (by kernel_rfl) ?_; refine zy 3 ?_; refine wpList_nil ?_; refine qt.at ?_; try dsimp only
           gi_wp2
           go_roundw
           case rel => exact ⟨j + 1, k + 1, R, by omega, Lib.hid (by rw [HK.out, Nat.add_assoc]), by go_num, by go_num, HSAME, B, p7, c8, i9, f6, r3, row⟩
           case measure => simp [intOf]; omega
         ·have q3 : decide (c.x0 + (j : Int) < c.x1) = false := decide_eq_false (by omega)
          have HKN := Lib.hid (show k = (i + 1) * Wd from by rw [Nat.add_mul, Nat.one_mul, HK.out]; omega)
          gi_upto_region 18 with fail
          refine zB (by kernel_rfl) ?_; refine zy 4 ?_
          refine wpList_nil ?_; refine qt.at ?_; try dsimp only
          gi_upto_region 16 with fail
          refine zB (by kernel_rfl) ?_; refine zy 3 ?_; refine wpList_nil ?_; refine qt.at ?_; try dsimp only
          gi_wp2
          go_roundw
          case rel => exact ⟨i + 1, k, R, by omega, HKN, rfl, by go_num, HR, B, p7, c8, i9, f6, r3, row⟩
          case measure => simp [intOf]; omega
       ·have q2 : decide (c.y0 + (i : Int) < c.y1) = false := decide_eq_false (by omega)
        have hiH : i = (c.y1 - c.y0).toNat := by omega
        have hkA : k = areaN c := by rw [HK.out, HAW.out, HWD.out, hiH, Nat.mul_comm]
        have hRI : R = I := by rw [← HR.out, hkA, zbS, ← HI.out]
        subst hRI; clear hkA hiH HR; gi_upto_region 15 with fail
        refine zB (by kernel_rfl) ?_; refine zy 4 ?_
        refine wpList_nil ?_; refine qt.at ?_; try dsimp only
        gi_upto_region 24 with fail
        have r2 := R2W.out.of_eq (B.block _ l2); have rs1 := RS1W.out.below B; have hu := row.rs; rw [hIn] at hu; have hA2 := HA.out; gi_upto_region 24 with fail
        refine zB (by kernel_rfl) ?_; refine jp 2 ?_
        repeat (first | go_big_quiet_skip | (go_big_quiet_want; first | ((first | refine zo (t := 117) rfl _ _ _ rfl (fun w hw => uX (zD i9 w hw)) (by first | rfl | omega) ?_ | refine qB ?_ | refine qC ?_); simp only [zn]; go_big_quiet_on) | (go_big_quiet_op; go_big_quiet_on)))
        refine wpQuiet_nil ?_; refine qT (enters_of Tryz.func77 (by kernel_rfl) rfl) (c := za4 _ M R' E c _ R _ rs1 TM.out (by unfold maxLen; omega) hu (by rw [hIn]; unfold maxLen; omega) OKI.out HR'.out HEe.out) (h := ?_)
        rintro e wn ⟨a5, c5, rfl, rs5, za⟩; have zf := B.size; have zg := za.size; replace B := B.trans (za.mono B.size)
        (try replace r2 := r2.below za)
        (try replace f6 := f6.below za)
        (try replace r3 := r3.below za)
        clear rs1 hu row; refine ⟨_, rfl, ?_⟩; simp only [zn]; refine zy 3 ?_
        (refine zu (t := 64) rfl _ (jD _ _ rfl) (z6 B ?_); clear B; intro b_t15 wn zb zd t15 za zf zk B; (try have zh := r2.lt); (try replace r2 := r2.below (za.mono zb)); (try have zh := i9.lt); (try have zh := f6.lt); (try replace f6 := f6.below (za.mono zb)); (try have zh := r3.lt); (try replace r3 := r3.below (za.mono zb)); (try have zh := rs5.lt); (try replace rs5 := rs5.below (za.mono zb)); simp only [zn])
        (refine zq (t := 64) rfl _ _ rfl _ rfl _ rfl t15 (by kernel_rfl) rfl (by simp [Value.oneCell']) (qG B (by omega) ?_); have t15o := t15; clear t15 B; intro wn t15 ze zf zg B; (try replace rs5 := rs5.chg t15o (by simp) ze); (try replace r2 := r2.of_eq (ze.block _ r2.lt (by omega))); (try replace f6 := f6.of_eq (ze.block _ f6.lt (by omega))); (try replace r3 := r3.of_eq (ze.block _ r3.lt (by omega))); simp only [zn])
        refine zy 1 ?_; refine wpList_nil ?_; refine qt.at ?_; try dsimp only
        have hrs5 : R'.length ≤ R'.length := Nat.le_refl _; have hws5 := B.size; by_cases hE0 : E = 0
        ·subst hE0
         gi_upto_region 25 with fail
         refine zB (by kernel_rfl) ?_; refine zy 2 ?_; refine wpList_nil ?_; refine qt.at ?_; try dsimp only
         gi_upto_region 27 with fail
         refine zB (by kernel_rfl) ?_; refine zy 1 ?_
         (refine zq (t := 64) rfl _ _ rfl _ rfl _ rfl r2 (by kernel_rfl) rfl (by simp [Value.oneCell']) ?_; intro wn ht ze zg; have r2o := r2; clear r2; have r2 := ht; clear ht; simp only [zn])
         refine wpList_nil ?_; refine qt.at ?_; try dsimp only
         gi_wp2
         have CH := (qV.of_below (b := b_r2) B).trans ze; refine ⟨KeepsOthers.chgB CH R2W.out, (u7.below B).trans (u7.exc ze.size (fun j h1 h2 => ze.block j h1 h2) r2o (by decide)), a5, c5, R', Lib.hid ?_, r2, rs5.chg r2o (by simp) ze, r3.of_eq (ze.block _ r3.lt (by omega)), ?_, ?_, f6.of_eq (ze.block _ f6.lt (by omega)), ?_, qV.below (BWW.out.trans (B.mono hws)) ze k2 (Nat.le_trans hws hws5)⟩
         ·rw [HS2.out, HR'.out, HEe.out]
         ·have h4 := R4W.out.of_eq (B.block _ l4)
          exact h4.of_eq (ze.block _ h4.lt (by omega))
         ·have h5 := E5W.out.of_eq (B.block _ l5)
          exact h5.of_eq (ze.block _ h5.lt (by omega))
         ·have h0 := LMW.out.below B
          exact h0.of_eq (ze.block _ h0.lt (by omega))
        ·have q7 : (E != 0) = true := by simpa using hE0
         gi_upto_region 25 with fail
         refine zB (by kernel_rfl) ?_; refine zy 2 ?_; refine wpList_nil ?_; refine qt.at ?_; try dsimp only
         have r4 := R4W.out.of_eq (B.block _ l4); have e5 := E5W.out.of_eq (B.block _ l5); have BE := BWW.out.trans (B.mono hws); have KE := KeepsOthers.below B; gi_upto_region 26 with fail
         refine zB (by kernel_rfl) ?_
         (refine zV rfl (.agg #[.slice none 0 0]) (by kernel_rfl) ?_; simp only [zn])
         refine zy 1 ?_
         (refine zq (t := 64) rfl _ _ rfl _ rfl _ rfl r4 (by kernel_rfl) rfl (by simp [Value.oneCell']) ?_; have HTO := r4; clear r4; intro wn ht ze zg; replace zg := Nat.le_of_eq zg.symm; replace BE := qV.below BE ze (by omega) BE.size; replace KE := KE.trans (KeepsOthers.chgB ze HTO); (try replace e5 := e5.of_eq (ze.block _ e5.lt (by omega))); have r4 := ht; clear ht; simp only [zn])
         (refine wy rfl _ _ rfl _ rfl _ rfl e5 ?_; have HTO := e5; clear e5; intro wn ht ze zg; replace zg := Nat.le_of_eq zg.symm; replace BE := qV.below BE ze (by omega) BE.size; replace KE := KE.trans (KeepsOthers.chgB ze HTO); (try replace r4 := r4.of_eq (ze.block _ r4.lt (by omega))); have e5 := ht; clear ht; simp only [zn])
         refine wpList_nil ?_; refine qt.at ?_; try dsimp only
         gi_wp2
         exact ⟨KE, rfl, E, Lib.hid ⟨by rw [HS2.out, HEe.out], hE0⟩, r4, e5, BE⟩
end Go.Proofs.YtepelndbbhdofaaGreatDoor
/- Contracts: Paint of package stroke, refused; Paint of its reference. -/
namespace Go.Proofs.YtepelndbbhdofaaGreatDoor
open Go.RowKit Go.Shelf Pl
set_option linter.unusedVariables false
set_option linter.unusedSimpArgs false
set_option maxRecDepth 20000
theorem Kl (v vs : Value) (s : qS) (ls : List TA) (w : World) (h : RS v ls w) (rs : j9 qQ vs s.pts w) (hn : s.pts.length ≤ 17592186044416) (hv : ju s = false) : Calls Tryz.prog 30 #[.agg #[v], .agg (qR vs s)] w fun e w' => e = .returned (.tuple #[.agg #[.slice none 0 0], .int .i64 1]) ∧ Below w.heap.size w w' := by
 have B := Below.refl w.heap.size w
 have HV0 := Lib.hid hv
 obtain ⟨ad, cd, rfl, hcd⟩ := rs.len
 obtain ⟨a, c, rfl, hc⟩ := h.len
 clear hv h
 go_enter Tryz.func30, Tryz.ntmps30
 go_upto_region 0 with fail
 refine wp_region_lit ?_
 (refine zt (t := 64) rfl _ rfl _ rfl (z6 B ?_); clear B; intro b_r2 wn zb zd r2 za zf zk B; (try have zh := rs.lt); (try replace rs := rs.below (za.mono zb)); simp only [zn])
 (refine zt (t := 30) rfl _ rfl _ rfl (z6 B ?_); clear B; intro b_r3 wn zb zd r3 za zf zk B; (try have zh := r2.lt); (try have zh := rs.lt); (try replace rs := rs.below (za.mono zb)); simp only [zn])
 (refine zu (t := 64) rfl _ (jD _ _ rfl) (z6 B ?_); clear B; intro b_r4 wn zb zd r4 za zf zk B; (try have zh := r2.lt); (try have zh := r3.lt); (try replace r3 := r3.below (za.mono zb)); (try have zh := rs.lt); (try replace rs := rs.below (za.mono zb)); simp only [zn])
 (refine zu (t := 53) rfl _ (uV _ _ rfl) (z6 B ?_); clear B; intro b_e5 wn zb zd e5 za zf zk B; (try have zh := r2.lt); (try have zh := r3.lt); (try replace r3 := r3.below (za.mono zb)); (try have zh := r4.lt); (try replace r4 := r4.below (za.mono zb)); (try have zh := rs.lt); (try replace rs := rs.below (za.mono zb)); simp only [zn])
 refine wpList_nil ?_
 have k5 : b_r4 < b_e5 := by have := r4.lt; omega
 go_upto_region 1 with fail
 refine wp_region_lit ?_
 refine zy 1 ?_
 refine qT (enters_of Tryz.func16 (by kernel_rfl) rfl) (c := xz _ s false _ rs hn HV0.out) (h := ?_)
 rintro e wn ⟨rfl, za⟩
 have zf := B.size
 have zg := za.size
 replace B := B.trans (za.mono B.size)
 (try replace r4 := r4.below za)
 (try replace e5 := e5.below za)
 refine ⟨_, rfl, ?_⟩
 simp only [zn]
 refine zy 1 ?_
 refine wpList_nil ?_
 go_upto_region 2 with fail
 refine wp_region_lit ?_
 (refine zV rfl (.agg #[.slice none 0 0]) (by kernel_rfl) ?_; simp only [zn])
 (refine zq (t := 64) rfl _ _ rfl _ rfl _ rfl r4 (by kernel_rfl) rfl (by simp [Value.oneCell']) (qG B (by omega) ?_); clear r4 B; intro wn r4 ze zf zg B; (try replace e5 := e5.of_eq (ze.block _ e5.lt (by omega))); simp only [zn])
 (refine wy rfl _ _ rfl _ rfl _ rfl e5 (qG B (by omega) ?_); clear e5 B; intro wn e5 ze zf zg B; (try replace r4 := r4.of_eq (ze.block _ r4.lt (by omega))); simp only [zn])
 refine wpList_nil ?_
 first | (refine bodyPost_ret (xq (t := 64) (u := 53) rfl _ _ b_r4 b_e5 rfl rfl r4 (j0 e5) Tryz.isAgg64 (by kernel_rfl)) rfl ?_) | (go_step; refine bodyPost_ret (xq (t := 64) (u := 53) rfl _ _ b_r4 b_e5 rfl rfl r4 (j0 e5) Tryz.isAgg64 (by kernel_rfl)) rfl ?_) | (go_step; go_step; refine bodyPost_ret (xq (t := 64) (u := 53) rfl _ _ b_r4 b_e5 rfl rfl r4 (j0 e5) Tryz.isAgg64 (by kernel_rfl)) rfl ?_) | (go_step; go_step; go_step; refine bodyPost_ret (xq (t := 64) (u := 53) rfl _ _ b_r4 b_e5 rfl rfl r4 (j0 e5) Tryz.isAgg64 (by kernel_rfl)) rfl ?_) | (go_step; go_step; go_step; go_step; refine bodyPost_ret (xq (t := 64) (u := 53) rfl _ _ b_r4 b_e5 rfl rfl r4 (j0 e5) Tryz.isAgg64 (by kernel_rfl)) rfl ?_) | (go_step; go_step; go_step; go_step; go_step; refine bodyPost_ret (xq (t := 64) (u := 53) rfl _ _ b_r4 b_e5 rfl rfl r4 (j0 e5) Tryz.isAgg64 (by kernel_rfl)) rfl ?_)
 exact ⟨rfl, B⟩
/-- Paint of package stroke. -/
theorem za1 (v vs : Value) (s : qS) (ls ks : List TA) (E : Int) (w : World) (lm : xG w) (h : RS v ls w) (tk : jo ls) (hn : ls.length ≤ maxLen) (rs : j9 qQ vs s.pts w) (hn2 : s.pts.length ≤ 17592186044416) (hcol : s.col.ok) (e : xp s ls = (ks, E)) : Calls Tryz.prog 30 #[.agg #[v], .agg (qR vs s)] w fun e w' => ∃ a cp, e = .returned (.tuple #[.agg #[.slice a ks.length cp], .int .i64 E]) ∧ RS (.slice a ks.length cp) ks w' ∧ Below w.heap.size w w' := by
 cases hv : ju s with
 | true =>
  have := Km v vs s ls w lm h tk hn rs hv hcol; rw [e] at this; exact this
 | false =>
  have e1 : xp s ls = ([], 1) := if_neg (by rw [hv]; simp)
  rw [e1] at e
  injection e with e1 e2
  subst e1 e2; exact (Kl v vs s ls w h rs hn2 hv).mono fun e w' ⟨h1, h2⟩ => ⟨none, 0, h1, RS.nil _, h2⟩
/-! ### The reference -/
/-- The pixels so far. -/
def zhN (c : Rc) (F : Int → Int → Px) (k : Nat) : List Px := (List.range k).map fun j => F (vP c j) (vQ c j)
end Go.Proofs.YtepelndbbhdofaaGreatDoor
/- The values of the sanity check of chapter 14's laws; slice literals; line. -/
namespace Go.Proofs.YtepelndbbhdofaaGreatDoor
open Go.RowKit Go.Shelf Pl Sha
set_option linter.unusedVariables false
set_option linter.unusedSimpArgs false
set_option maxRecDepth 20000
section
variable {α : Type} {k : Nat} {T ST : TypeId} {E : Q3 α k T ST}
theorem WN (ls : List α) (cs : Array Value) (hs : cs.size = ls.length * k) : Instr.fill (fun i => some (i * k, k)) cs (((ls.map fun x => Value.agg (E.enc x)).zipIdx 0).map fun y => (y.2, y.1)) = some (j5 E ls).toArray := by
 obtain ⟨r, hr1, hr2, hr3⟩ := Great.fill_dense E.pos (ls.map fun x => Value.agg (E.enc x)) 0 cs (fun v hv => by obtain ⟨x, _, rfl⟩ := List.mem_map.1 hv; simp only [Value.cells, E.size]) (by rw [List.length_map, hs, Nat.zero_add]; exact Nat.le_refl _)
 rw [hr1]
 congr 1
 apply Array.ext_getElem?
 intro j
 have hr : (j5 E ls).toArray[j]? = (j5 E ls)[j]? := by rw [List.getElem?_toArray]
 rw [hr3 j, List.length_map, hr, Nat.zero_add]
 by_cases h : j < ls.length * k
 ·obtain ⟨h1, h2, h3⟩ := ul E.pos h
  have hx : ls[j / k]? = some ls[j / k] := List.getElem?_eq_getElem h1; have h4 := uT E ls (j / k) _ hx (j % k) h2; rw [← h3] at h4; rw [if_pos ⟨by rw [Nat.zero_mul]; omega, h⟩, h4, Nat.sub_zero, List.getElem?_map, hx]
  simp only [Option.map_some, Option.bind_some, Value.cells]
 ·rw [if_neg (fun h' => h h'.2), Array.getElem?_eq_none (by rw [hs]; exact Nat.le_of_not_lt h), List.getElem?_eq_none (by rw [xr]; exact Nat.le_of_not_lt h)]
variable {ops : Array Oper} {rest : List Oper} {o : Oper} {a : Act} {w : World} {Q : Exit → Act → World → Prop}
theorem zcd {K : Act → World → Prop} (n : Nat) (ps : Array (Nat × Operand)) (ho : o.op = .buildSlice ST n ps) (ls : List α) (hl : ls.length = n) (hp : (ps.map fun (i, x) => (i, a.eval x)).toList = ((ls.map fun x => Value.agg (E.enc x)).zipIdx 0).map fun y => (y.2, y.1)) (hn : 0 < n) (hk : n * k ≤ 1000)
  (h : ∀ b w', w.heap.size ≤ b → b ≤ w.heap.size → jw E w' b ls → Below b w w' → w'.heap.size = b + 1 → K (a.put o.dst (.slice (some ⟨b, 0, none⟩) n n)) w') : o.wp Tryz.prog a w K Q := by
 obtain ⟨i, z, hi, hz, zf, hby, hzc⟩ := E.facts
 have hp0 := Nat.mul_pos hn E.pos
 refine wp_buildSlice ST T n ps ho (j5 E ls).toArray i z E.und hi hz (by rw [zf]; omega) (by rw [zf]; omega) ?_ (h _ _ (Nat.le_refl _) (Nat.le_refl _) (by unfold jw zJ; rw [zL, if_pos rfl]) ((Below.refl _ _).alloc (Nat.le_refl _) _) (World.size_alloc _ _))
 rw [zf, hp]
 exact WN ls _ (by rw [hl]; simp)
theorem ZI (hw : Region.wanted o (yielded ops a.tmps) = true) (n : Nat) (ps : Array (Nat × Operand)) (ho : o.op = .buildSlice ST n ps) (ls : List α) (hl : ls.length = n) (hp : (ps.map fun (i, x) => (i, a.eval x)).toList = ((ls.map fun x => Value.agg (E.enc x)).zipIdx 0).map fun y => (y.2, y.1)) (hn : 0 < n) (hk : n * k ≤ 1000)
  (h : ∀ b w', w.heap.size ≤ b → b ≤ w.heap.size → jw E w' b ls → Below b w w' → w'.heap.size = b + 1 → wpList Tryz.prog ops Q rest (a.put o.dst (.slice (some ⟨b, 0, none⟩) n n)) w') : wpList Tryz.prog ops Q (o :: rest) a w := by
 unfold wpList
 rw [if_pos hw]
 exact .inl (zcd n ps ho ls hl hp hn hk h)
end
/-! ### The example -/
def qK : qS := ⟨[⟨0, 0, 255⟩, ⟨100, 0, 255⟩, ⟨100, 30, 255⟩], 16, 40, ⟨200, 0, 0, 255⟩, false, 10⟩
def vI : List Db := [⟨10, 0, 16⟩, ⟨50, 0, 16⟩, ⟨90, 0, 16⟩]
theorem ln1 : ju qK = true := by decide +kernel
theorem ln2 : vD qK = vI := by decide +kernel
theorem ln3 : (spB qK 1).pha = 30 := by decide +kernel
theorem ln4 : vD (spB qK 1) = [] := by decide +kernel
theorem ln5 : vK ⟨8, 8, 8⟩ 0 0 = 191 := by decide +kernel
theorem ln6 : zeu qK = ⟨-1, -1, 7, 2⟩ := by decide +kernel
theorem ln7 : ju Z8 = false := by decide +kernel
theorem ln8 : xQ [] = (Z8, 10) := vq (by decide)
theorem kR : qK.col.ok := by unfold Px.ok qK; simp
theorem ln9 : xQ (jh qK) = (qK, 0) := QI ((jR _).1 ln1) kR
def zbo : Rc := ⟨-1, -1, 1, 1⟩
theorem KK : ∀ d ∈ vI, V4 d ∧ zeH zbo d := fun d hd => by
 have hc : d = ⟨10, 0, 16⟩ ∨ d = ⟨50, 0, 16⟩ ∨ d = ⟨90, 0, 16⟩ := by simpa [vI] using hd
 rcases hc with rfl | rfl | rfl
 ·refine ⟨by unfold V4; decide, fun _ x y h => ?_⟩
  have e : wU (ZN ⟨10, 0, 16⟩) = ⟨-1, -1, 1, 1⟩ := by decide +kernel
  rw [e] at h; exact h
 ·refine ⟨by unfold V4; decide, fun _ x y h => ?_⟩
  have e : wU (ZN ⟨50, 0, 16⟩) = ⟨0, -1, 1, 1⟩ := by decide +kernel
  rw [e] at h; rw [jM] at h ⊢; unfold zbo; simp only at h ⊢; omega
 ·refine ⟨by unfold V4; decide, fun _ x y h => ?_⟩
  have e : wU (ZN ⟨90, 0, 16⟩) = ⟨0, -1, 1, 1⟩ := by decide +kernel
  rw [e] at h; rw [jM] at h ⊢; unfold zbo; simp only at h ⊢; omega
theorem WG : xj zbo := by unfold zbo; refine ⟨?_, ?_, ?_, ?_, ?_, ?_, ?_, ?_⟩ <;> (simp only; omega)
theorem zbY : (xU qK vI []).2 = 0 := (Yj (s := qK) WG (by decide) vI [] (fun d h => (KK d h).1) (fun d h => (KK d h).2) xu (fun e h => by cases h)).1
theorem WO : ji [] = [] := y8 xu
theorem zdS : xO qK = vI := by
 have := ln2
 unfold vD at this
 rw [ln1] at this
 exact this
theorem Yo : xp qK [] = xU qK vI [] := by
 unfold xp
 rw [if_pos ln1, zdS, WO]
theorem zgU : (xp qK []).2 = 0 := by rw [Yo]; exact zbY
theorem zgV : (xT (xp qK []).1 0 0).a > 0 := by
 rw [Yo, Yk kR 0 0 vI [] (fun d h => (KK d h).1) xu jo.nil zbY]
 decide +kernel
/- line, sanity of chapter 14's laws. -/
set_option maxHeartbeats 1000000 in
theorem y6 (w : World) : Calls Tryz.prog 48 #[] w fun e w' => ∃ b, e = .returned (.agg (qR (.slice (some ⟨b, 0, none⟩) 3 3) qK)) ∧ j9 qQ (.slice (some ⟨b, 0, none⟩) 3 3) qK.pts w' ∧ Below w.heap.size w w' := by
 have B := Below.refl w.heap.size w
 go_enter Tryz.func48, Tryz.ntmps48
 go_upto_region 0 with fail
 refine wp_region_lit ?_
 (refine zu (t := 30) rfl _ (zW _ _ rfl) (z6 B ?_); clear B; intro b_r0 wn zb zd r0 za zf zk B; simp only [zn])
 refine wpList_nil ?_
 have hr0 := r0.lt
 go_upto_region 1 with fail
 refine wp_region_lit ?_
 (refine zV rfl (.agg #[.int .i64 0, .int .i64 0, .int .i64 255]) (by first | rfl | kernel_rfl | simp [go_sem, Act.eval]) ?_; simp only [zn])
 (refine zV rfl (.agg #[.int .i64 100, .int .i64 0, .int .i64 255]) (by first | rfl | kernel_rfl | simp [go_sem, Act.eval]) ?_; simp only [zn])
 (refine zV rfl (.agg #[.int .i64 100, .int .i64 30, .int .i64 255]) (by first | rfl | kernel_rfl | simp [go_sem, Act.eval]) ?_; simp only [zn])
 (refine ZI (E := qQ) (by first | rfl | simp [Region.wanted, yielded]) 3 _ rfl qK.pts rfl (by simp only [Act.eval, qo]; rfl) (by omega) (by omega) (z6 B ?_); clear B; intro b_row wn zb zd row za zf zk B; (try have zh := r0.lt); (try replace r0 := r0.below (za.mono zb)); simp only [zn])
 (refine zV rfl (.agg #[.int .u8 200, .int .u8 0, .int .u8 0, .int .u8 255]) (by first | rfl | kernel_rfl | simp [go_sem, Act.eval]) ?_; simp only [zn])
 (refine zV rfl (.agg (qR (.slice (some ⟨b_row, 0, none⟩) 3 3) qK)) (by first | rfl | kernel_rfl | simp [go_sem, Act.eval]) ?_; simp only [zn])
 (refine zq (t := 30) rfl _ _ rfl _ rfl _ rfl r0 (by kernel_rfl) rfl (by simp [qR, Value.oneCell']) (qG B (by omega) ?_); clear r0 B; intro wn r0 ze zf zg B; replace row := row.of_eq (ze.block _ row.lt (by omega)); simp only [zn])
 refine wpList_nil ?_
 first | (refine bodyPost_ret (zv (t := 30) rfl _ _ (b_r0) rfl r0 Tryz.isAgg30 (by kernel_rfl)) rfl ?_) | (go_step; refine bodyPost_ret (zv (t := 30) rfl _ _ (b_r0) rfl r0 Tryz.isAgg30 (by kernel_rfl)) rfl ?_) | (go_step; go_step; refine bodyPost_ret (zv (t := 30) rfl _ _ (b_r0) rfl r0 Tryz.isAgg30 (by kernel_rfl)) rfl ?_) | (go_step; go_step; go_step; refine bodyPost_ret (zv (t := 30) rfl _ _ (b_r0) rfl r0 Tryz.isAgg30 (by kernel_rfl)) rfl ?_) | (go_step; go_step; go_step; go_step; refine bodyPost_ret (zv (t := 30) rfl _ _ (b_r0) rfl r0 Tryz.isAgg30 (by kernel_rfl)) rfl ?_) | (go_step; go_step; go_step; go_step; go_step; refine bodyPost_ret (zv (t := 30) rfl _ _ (b_r0) rfl r0 Tryz.isAgg30 (by kernel_rfl)) rfl ?_)
 exact ⟨_, rfl, row.rs, B⟩
/-- Split of the example. -/
theorem zbZ (v : Value) (w : World) (rs : j9 qQ v qK.pts w) : Calls Tryz.prog 26 #[.agg (qR v qK), .int .i64 1] w fun e w' => ∃ aa na ca ab nb cb, e = .returned (.tuple #[.agg (qR (.slice aa na ca) (spA qK 1)), .agg (qR (.slice ab nb cb) (spB qK 1)), .int .i64 0]) ∧ j9 qQ (.slice ab nb cb) (spB qK 1).pts w' ∧ Below w.heap.size w w' :=
 (Kq v qK 1 w rs ln1 (by omega) (by decide)).mono fun e w' ⟨va, vb, h1, h2, h3, h4⟩ => by
  obtain ⟨aa, ca, rfl, _⟩ := h2.len; obtain ⟨ab, cb, rfl, _⟩ := h3.len; exact ⟨_, _, _, _, _, _, h1, h3.rs, h4⟩
def lnK : List TA := (xp qK []).1
theorem lnP : xp qK [] = (lnK, 0) := Prod.ext rfl zgU
def lnY : List UInt8 := jh qK
theorem zdR : lnY.length ≤ 100000000 := by
 have e : jh qK = qL qK := by unfold jh; rw [ln1]; rfl
 show (jh qK).length ≤ _
 rw [e, vi]
 decide
theorem zdV (w : World) : Calls Tryz.prog 34 #[.string (jk lnY)] w fun e w' => ∃ a n c, e = .returned (.tuple #[.agg (qR (.slice a n c) qK), .int .i64 0]) ∧ j9 qQ (.slice a n c) qK.pts w' ∧ Below w.heap.size w w' :=
 (JQ lnY qK 0 w zdR ln9).mono fun e w' ⟨v, h1, h2, h3⟩ => by
  obtain ⟨a, c, rfl, _⟩ := h2.len; exact ⟨_, _, _, h1, h2, h3⟩
theorem zdU (w : World) : Calls Tryz.prog 34 #[.string { data := #[] }] w fun e w' => ∃ a n c, e = .returned (.tuple #[.agg (qR (.slice a n c) Z8), .int .i64 10]) ∧ Below w.heap.size w w' :=
 (JQ [] Z8 10 w (by simp) ln8).mono fun e w' ⟨v, h1, h2, h3⟩ => by
  obtain ⟨a, c, rfl, _⟩ := h2.len; exact ⟨_, _, _, h1, h3⟩
theorem Qu : qK.pts.length ≤ 17592186044416 := by decide
theorem zdT : (spB qK 1).pts.length ≤ 17592186044416 := by decide
theorem zdQ : lnK.length ≤ maxLen := by
 have := Yx (s := qK) kR (ls := []) jo.nil
 have := (xN.1 this.1).1
 unfold lnK maxLen
 omega
/-! ### Rectangles compared -/
theorem Yd (d : Nat) (a b : Rc) (w : World) : (Op.equalIn (d + 2) 38 (.agg (j4 a)) (.agg (j4 b))).run Tryz.prog w = .ok (decide (a = b)) w := by
 obtain ⟨x, y, z, u⟩ := a
 obtain ⟨x', y', z', u'⟩ := b
 have h : (Op.equalIn (d + 2) 38 (.agg #[.int .i64 x, .int .i64 y, .int .i64 z, .int .i64 u]) (.agg #[.int .i64 x', .int .i64 y', .int .i64 z', .int .i64 u'])).run Tryz.prog w = .ok (x == x' && (y == y' && (z == z' && u == u'))) w := by
  by_cases h1 : x = x' <;> by_cases h2 : y = y' <;> by_cases h3 : z = z' <;> by_cases h4 : u = u' <;> simp [go_sem, h1, h2, h3, h4]
 refine h.trans ?_
 congr 1
 rw [Bool.eq_iff_iff]
 simp
theorem zdB (a b : Rc) (w : World) : (binOp .eql 38 (.agg (j4 a)) (.agg (j4 b))).run Tryz.prog w = .ok (.bool (decide (a = b))) w := by
 have h := run_eql_struct (P := Tryz.prog) w 38 (j4 a) (j4 b)
 rw [h, Yd 9998 a b w]; rfl
theorem jN {o : Oper} {a : Act} {C : World → Prop} {K : Act → Prop} {p q : Operand} {t2 : TypeId} (h : o.op = .binOp .eql 38 p q t2) (x y : Rc) (hx : a.eval p = .agg (j4 x)) (hy : a.eval q = .agg (j4 y)) (b : Bool) (hb : decide (x = y) = b) (hk : K (a.put o.dst (.bool b))) : o.quiet Tryz.prog a C K :=
 ⟨_, fun w hw => by
  have hg : (eqGuard .eql 38 p q (.agg (j4 x)) (.agg (j4 y))).run Tryz.prog w = .ok () w := run_eqGuard_agg w _ 38 p q _ _ (by kernel_rfl); unfold Oper.quietAt execOp; simp only [h, hx, hy, hg, zdB, hb, Sem.run_bind, Sem.run_pure, Result.andThen_ok]; exact ⟨rfl, rfl⟩, hk⟩
def zfV : jB := ⟨Option Addr × Nat, ⟨(none, 0)⟩, fun p => .slice p.1 0 p.2, fun _ _ => True, fun _ _ _ _ h => h⟩
def Jm : jB := ⟨Nat, ⟨0⟩, fun b => .agg (qR (.slice (some ⟨b, 0, none⟩) 3 3) qK), fun b w => j9 qQ (.slice (some ⟨b, 0, none⟩) 3 3) qK.pts w, fun _ _ _ hb h => h.below hb⟩
set_option maxHeartbeats 4000000 in
theorem zcE (w : World) (lm : xG w) : Calls Tryz.prog 13 #[] w fun e w' => e = .returned (.bool true) ∧ Below w.heap.size w w' := by
 have B := Below.refl w.heap.size w
 have q30 : ((spB qK 1).pha == 30) = true := by rw [ln3]; rfl
 obtain ⟨⟨pr, pg, pb, pa⟩, hpx⟩ : ∃ p, xT lnK 0 0 = p := ⟨_, rfl⟩
 have hpa : pa > 0 := by have := zgV; rw [show (xp qK []).1 = lnK from rfl, hpx] at this; exact this
 have HPX := Lib.hid hpx
 clear hpx
 have qa : decide (pa > 0) = true := decide_eq_true hpa
 have qa' : decide (0 < pa) = true := decide_eq_true hpa
 have GETC : Hid (∀ v w, RS v lnK w → Calls Tryz.prog 31 #[.agg #[v], .int .i64 0, .int .i64 0] w fun e w' => e = .returned (.agg #[.int .u8 pr, .int .u8 pg, .int .u8 pb, .int .u8 pa]) ∧ Below w.heap.size w w') := Lib.hid fun v w h => by
  have := zeK v lnK 0 0 w h zdQ (JI (by omega) (by omega)) (JI (by omega) (by omega)); rw [HPX.out] at this; exact this
 go_enter Tryz.func13, Tryz.ntmps13
 go_upto_region 0 with fail
 refine wp_region_lit ?_
 refine zy 1 ?_
 refine wpList_nil ?_
 go_upto_region 1 with fail
 refine wp_region_lit ?_
 refine qT (enters_of Tryz.func48 (by kernel_rfl) rfl) (c := y6 _) (h := ?_)
 rintro e wn ⟨bl, rfl, rl, za⟩
 have zf := B.size
 have zg := za.size
 replace B := B.trans (za.mono B.size)
 (try replace lm := lm.below za)
 (try replace rl := rl.below za)
 refine ⟨_, rfl, ?_⟩
 simp only [zn]
 refine qT (enters_of Tryz.func19 (by kernel_rfl) rfl) (c := Z9 _ qK vI _ rl Qu ln2) (h := ?_)
 rintro e wn ⟨a1, c1, rfl, od, za⟩
 have zf := B.size
 have zg := za.size
 replace B := B.trans (za.mono B.size)
 (try replace lm := lm.below za)
 (try replace rl := rl.below za)
 have rd := od.rs
 clear od rl
 refine ⟨_, rfl, ?_⟩
 simp only [zn]
 refine zy 1 ?_
 refine wpList_nil ?_
 go_upto_region 2 with fail
 refine wp_region_lit ?_
 (refine zV rfl (.agg #[.int .i64 10, .int .i64 0, .int .i64 16]) (by first | rfl | kernel_rfl | simp [go_sem, Act.eval]) ?_; simp only [zn])
 (refine zV rfl (.agg #[.int .i64 50, .int .i64 0, .int .i64 16]) (by first | rfl | kernel_rfl | simp [go_sem, Act.eval]) ?_; simp only [zn])
 (refine zV rfl (.agg #[.int .i64 90, .int .i64 0, .int .i64 16]) (by first | rfl | kernel_rfl | simp [go_sem, Act.eval]) ?_; simp only [zn])
 (refine ZI (E := vj) (by first | rfl | simp [Region.wanted, yielded]) 3 _ rfl vI rfl (by simp only [Act.eval, qo]; rfl) (by omega) (by omega) (z6 B ?_); clear B; intro b_wr wn zb zd wr za zf zk B; (try have zh := lm.lt); (try replace lm := lm.below (za.mono zb)); (try have zh := rd.lt); (try replace rd := rd.below (za.mono zb)); simp only [zn])
 refine zy 1 ?_
 refine wpList_nil ?_
 go_upto_region 3 with fail
 refine wp_region_lit ?_
 refine qT (enters_of Tryz.func48 (by kernel_rfl) rfl) (c := y6 _) (h := ?_)
 rintro e wn ⟨bl, rfl, rl, za⟩
 have zf := B.size
 have zg := za.size
 replace B := B.trans (za.mono B.size)
 (try replace lm := lm.below za)
 (try replace rd := rd.below za)
 (try replace wr := wr.below za)
 (try replace rl := rl.below za)
 refine ⟨_, rfl, ?_⟩
 simp only [zn]
 refine qT (enters_of Tryz.func26 (by kernel_rfl) rfl) (c := zbZ _ _ rl) (h := ?_)
 rintro e wn ⟨aa, na, ca, ab, nb, cb, rfl, rb, za⟩
 have zf := B.size
 have zg := za.size
 replace B := B.trans (za.mono B.size)
 (try replace lm := lm.below za)
 (try replace rd := rd.below za)
 (try replace wr := wr.below za)
 (try replace rl := rl.below za)
 clear rl
 refine ⟨_, rfl, ?_⟩
 simp only [zn]
 refine zy 4 ?_
 obtain ⟨wK, hK⟩ : ∃ z, z = wn := ⟨_, rfl⟩
 subst hK
 have BG := B
 have hwsK := BG.size
 have B := Below.refl wK.heap.size wK
 have H_lm := Lib.hid lm
 have H_rd := Lib.hid rd
 have H_wr := Lib.hid wr
 have H_rb := Lib.hid rb
 (refine zu (t := 30) rfl _ (zW _ _ rfl) (z6 B ?_); clear B; intro b_r3 wn zb zd r3 za zf zk B; (try have zh := lm.lt); (try replace lm := lm.below (za.mono zb)); (try have zh := rd.lt); (try replace rd := rd.below (za.mono zb)); (try have zh := wr.lt); (try replace wr := wr.below (za.mono zb)); (try have zh := rb.lt); (try replace rb := rb.below (za.mono zb)); simp only [zn])
 (have _ := r3.lt; refine zu (t := 30) rfl _ (zW _ _ rfl) (z6 B ?_); clear B; intro b_r4 wn zb zd r4 za zf zk B; (try have zh := lm.lt); (try replace lm := lm.below (za.mono zb)); (try have zh := rd.lt); (try replace rd := rd.below (za.mono zb)); (try have zh := wr.lt); (try replace wr := wr.below (za.mono zb)); (try have zh := rb.lt); (try replace rb := rb.below (za.mono zb)); (try have zh := r3.lt); (try replace r3 := r3.below (za.mono zb)); simp only [zn])
 (refine zq (t := 30) rfl _ _ rfl _ rfl _ rfl r3 (by kernel_rfl) rfl (by simp [qR, Value.oneCell']) (qG B (by omega) ?_); clear r3 B; intro wn r3 ze zf zg B; (try replace r4 := r4.of_eq (ze.block _ r4.lt (by omega))); simp only [zn])
 (refine zq (t := 30) rfl _ _ rfl _ rfl _ rfl r4 (by kernel_rfl) rfl (by simp [qR, Value.oneCell']) (qG B (by omega) ?_); clear r4 B; intro wn r4 ze zf zg B; (try replace r3 := r3.of_eq (ze.block _ r3.lt (by omega))); simp only [zn])
 refine zy 1 ?_
 refine wpList_nil ?_
 clear lm
 clear rd
 clear wr
 clear rb
 have lm := by first | exact H_lm.out.below B | exact H_lm.out.of_eq (B.block _ H_lm.out.lt)
 have rd := by first | exact H_rd.out.below B | exact H_rd.out.of_eq (B.block _ H_rd.out.lt)
 have wr := by first | exact H_wr.out.below B | exact H_wr.out.of_eq (B.block _ H_wr.out.lt)
 have rb := by first | exact H_rb.out.below B | exact H_rb.out.of_eq (B.block _ H_rb.out.lt)
 clear H_lm
 clear H_rd
 clear H_wr
 clear H_rb
 have B0 := BG.trans (B.mono hwsK)
 clear B BG hwsK
 have B := B0
 clear B0
 clear r3
 go_upto_region 4 with fail
 refine wp_region_lit ?_
 (refine zV rfl (.agg #[.slice none 0 0]) (by first | rfl | kernel_rfl | simp [go_sem, Act.eval]) ?_; simp only [zn])
 refine qT (enters_of Tryz.func48 (by kernel_rfl) rfl) (c := y6 _) (h := ?_)
 rintro e wn ⟨bl, rfl, rl, za⟩
 have zf := B.size
 have zg := za.size
 replace B := B.trans (za.mono B.size)
 (try replace lm := lm.below za)
 (try replace rd := rd.below za)
 (try replace wr := wr.below za)
 (try replace rb := rb.below za)
 (try replace r4 := r4.below za)
 (try replace rl := rl.below za)
 refine ⟨_, rfl, ?_⟩
 simp only [zn]
 refine qT (enters_of Tryz.func30 (by kernel_rfl) rfl) (c := za1 _ _ qK [] lnK 0 _ lm (RS.nil _) jo.nil (Nat.zero_le _) rl Qu kR lnP) (h := ?_)
 rintro e wn ⟨ap, cp, rfl, rk, za⟩
 have zf := B.size
 have zg := za.size
 replace B := B.trans (za.mono B.size)
 (try replace lm := lm.below za)
 (try replace rd := rd.below za)
 (try replace wr := wr.below za)
 (try replace rb := rb.below za)
 (try replace r4 := r4.below za)
 (try replace rl := rl.below za)
 clear rl
 refine ⟨_, rfl, ?_⟩
 simp only [zn]
 refine zy 3 ?_
 obtain ⟨wK, hK⟩ : ∃ z, z = wn := ⟨_, rfl⟩
 subst hK
 have BG := B
 have hwsK := BG.size
 have B := Below.refl wK.heap.size wK
 have H_lm := Lib.hid lm
 have H_rd := Lib.hid rd
 have H_wr := Lib.hid wr
 have H_rb := Lib.hid rb
 have H_r4 := Lib.hid r4
 have H_rk := Lib.hid rk
 (refine zu (t := 64) rfl _ (jD _ _ rfl) (z6 B ?_); clear B; intro b_r6 wn zb zd r6 za zf zk B; (try have zh := lm.lt); (try replace lm := lm.below (za.mono zb)); (try have zh := rd.lt); (try replace rd := rd.below (za.mono zb)); (try have zh := wr.lt); (try replace wr := wr.below (za.mono zb)); (try have zh := rb.lt); (try replace rb := rb.below (za.mono zb)); (try have zh := r4.lt); (try replace r4 := r4.below (za.mono zb)); (try have zh := rk.lt); (try replace rk := rk.below (za.mono zb)); simp only [zn])
 (refine zq (t := 64) rfl _ _ rfl _ rfl _ rfl r6 (by kernel_rfl) rfl (by simp [Value.oneCell']) (qG B (by omega) ?_); clear r6 B; intro wn r6 ze zf zg B; simp only [zn])
 refine zy 1 ?_
 refine wpList_nil ?_
 clear lm
 clear rd
 clear wr
 clear rb
 clear r4
 clear rk
 have lm := by first | exact H_lm.out.below B | exact H_lm.out.of_eq (B.block _ H_lm.out.lt)
 have rd := by first | exact H_rd.out.below B | exact H_rd.out.of_eq (B.block _ H_rd.out.lt)
 have wr := by first | exact H_wr.out.below B | exact H_wr.out.of_eq (B.block _ H_wr.out.lt)
 have rb := by first | exact H_rb.out.below B | exact H_rb.out.of_eq (B.block _ H_rb.out.lt)
 have r4 := by first | exact H_r4.out.below B | exact H_r4.out.of_eq (B.block _ H_r4.out.lt)
 have rk := by first | exact H_rk.out.below B | exact H_rk.out.of_eq (B.block _ H_rk.out.lt)
 clear H_lm
 clear H_rd
 clear H_wr
 clear H_rb
 clear H_r4
 clear H_rk
 have B0 := BG.trans (B.mono hwsK)
 clear B BG hwsK
 have B := B0
 clear B0
 go_upto_region 5 with fail
 refine wp_region_lit ?_
 refine qT (enters_of Tryz.func48 (by kernel_rfl) rfl) (c := y6 _) (h := ?_)
 rintro e wn ⟨bl, rfl, rl, za⟩
 have zf := B.size
 have zg := za.size
 replace B := B.trans (za.mono B.size)
 (try replace lm := lm.below za)
 (try replace rd := rd.below za)
 (try replace wr := wr.below za)
 (try replace rb := rb.below za)
 (try replace r4 := r4.below za)
 (try replace rk := rk.below za)
 (try replace r6 := r6.below za)
 (try replace rl := rl.below za)
 refine ⟨_, rfl, ?_⟩
 simp only [zn]
 refine qT (enters_of Tryz.func33 (by kernel_rfl) rfl) (c := kI _ qK lnY _ rl Qu kR rfl) (h := ?_)
 rintro e wn ⟨rfl, za⟩
 have zf := B.size
 have zg := za.size
 replace B := B.trans (za.mono B.size)
 (try replace lm := lm.below za)
 (try replace rd := rd.below za)
 (try replace wr := wr.below za)
 (try replace rb := rb.below za)
 (try replace r4 := r4.below za)
 (try replace rk := rk.below za)
 (try replace r6 := r6.below za)
 (try replace rl := rl.below za)
 clear rl
 refine ⟨_, rfl, ?_⟩
 simp only [zn]
 refine qT (enters_of Tryz.func34 (by kernel_rfl) rfl) (c := zdV _) (h := ?_)
 rintro e wn ⟨a8, n8, c8, rfl, r8s, za⟩
 have zf := B.size
 have zg := za.size
 replace B := B.trans (za.mono B.size)
 (try replace lm := lm.below za)
 (try replace rd := rd.below za)
 (try replace wr := wr.below za)
 (try replace rb := rb.below za)
 (try replace r4 := r4.below za)
 (try replace rk := rk.below za)
 (try replace r6 := r6.below za)
 refine ⟨_, rfl, ?_⟩
 simp only [zn]
 refine zy 3 ?_
 obtain ⟨wK, hK⟩ : ∃ z, z = wn := ⟨_, rfl⟩
 subst hK
 have BG := B
 have hwsK := BG.size
 have B := Below.refl wK.heap.size wK
 have H_lm := Lib.hid lm
 have H_rd := Lib.hid rd
 have H_wr := Lib.hid wr
 have H_rb := Lib.hid rb
 have H_r4 := Lib.hid r4
 have H_rk := Lib.hid rk
 have H_r6 := Lib.hid r6
 have H_r8s := Lib.hid r8s
 (refine zu (t := 30) rfl _ (zW _ _ rfl) (z6 B ?_); clear B; intro b_r8 wn zb zd r8 za zf zk B; (try have zh := lm.lt); (try replace lm := lm.below (za.mono zb)); (try have zh := rd.lt); (try replace rd := rd.below (za.mono zb)); (try have zh := wr.lt); (try replace wr := wr.below (za.mono zb)); (try have zh := rb.lt); (try replace rb := rb.below (za.mono zb)); (try have zh := r4.lt); (try replace r4 := r4.below (za.mono zb)); (try have zh := rk.lt); (try replace rk := rk.below (za.mono zb)); (try have zh := r6.lt); (try replace r6 := r6.below (za.mono zb)); (try have zh := r8s.lt); (try replace r8s := r8s.below (za.mono zb)); simp only [zn])
 (refine zq (t := 30) rfl _ _ rfl _ rfl _ rfl r8 (by kernel_rfl) rfl (by simp [qR, Value.oneCell']) (qG B (by omega) ?_); clear r8 B; intro wn r8 ze zf zg B; simp only [zn])
 refine zy 1 ?_
 refine wpList_nil ?_
 clear lm
 clear rd
 clear wr
 clear rb
 clear r4
 clear rk
 clear r6
 clear r8s
 have lm := by first | exact H_lm.out.below B | exact H_lm.out.of_eq (B.block _ H_lm.out.lt)
 have rd := by first | exact H_rd.out.below B | exact H_rd.out.of_eq (B.block _ H_rd.out.lt)
 have wr := by first | exact H_wr.out.below B | exact H_wr.out.of_eq (B.block _ H_wr.out.lt)
 have rb := by first | exact H_rb.out.below B | exact H_rb.out.of_eq (B.block _ H_rb.out.lt)
 have r4 := by first | exact H_r4.out.below B | exact H_r4.out.of_eq (B.block _ H_r4.out.lt)
 have rk := by first | exact H_rk.out.below B | exact H_rk.out.of_eq (B.block _ H_rk.out.lt)
 have r6 := by first | exact H_r6.out.below B | exact H_r6.out.of_eq (B.block _ H_r6.out.lt)
 have r8s := by first | exact H_r8s.out.below B | exact H_r8s.out.of_eq (B.block _ H_r8s.out.lt)
 clear H_lm
 clear H_rd
 clear H_wr
 clear H_rb
 clear H_r4
 clear H_rk
 clear H_r6
 clear H_r8s
 have B0 := BG.trans (B.mono hwsK)
 clear B BG hwsK
 have B := B0
 clear B0
 go_upto_region 6 with fail
 refine wp_region_lit ?_
 refine qT (enters_of Tryz.func34 (by kernel_rfl) rfl) (c := zdU _) (h := ?_)
 rintro e wn ⟨a10, n10, c10, rfl, za⟩
 have zf := B.size
 have zg := za.size
 replace B := B.trans (za.mono B.size)
 (try replace lm := lm.below za)
 (try replace rd := rd.below za)
 (try replace wr := wr.below za)
 (try replace rb := rb.below za)
 (try replace r4 := r4.below za)
 (try replace rk := rk.below za)
 (try replace r6 := r6.below za)
 (try replace r8s := r8s.below za)
 (try replace r8 := r8.below za)
 refine ⟨_, rfl, ?_⟩
 simp only [zn]
 refine zy 3 ?_
 obtain ⟨wK, hK⟩ : ∃ z, z = wn := ⟨_, rfl⟩
 subst hK
 have BG := B
 have hwsK := BG.size
 have B := Below.refl wK.heap.size wK
 have H_lm := Lib.hid lm
 have H_rd := Lib.hid rd
 have H_wr := Lib.hid wr
 have H_rb := Lib.hid rb
 have H_r4 := Lib.hid r4
 have H_rk := Lib.hid rk
 have H_r6 := Lib.hid r6
 have H_r8s := Lib.hid r8s
 have H_r8 := Lib.hid r8
 (refine zu (t := 30) rfl _ (zW _ _ rfl) (z6 B ?_); clear B; intro b_r10 wn zb zd r10 za zf zk B; (try have zh := lm.lt); (try replace lm := lm.below (za.mono zb)); (try have zh := rd.lt); (try replace rd := rd.below (za.mono zb)); (try have zh := wr.lt); (try replace wr := wr.below (za.mono zb)); (try have zh := rb.lt); (try replace rb := rb.below (za.mono zb)); (try have zh := r4.lt); (try replace r4 := r4.below (za.mono zb)); (try have zh := rk.lt); (try replace rk := rk.below (za.mono zb)); (try have zh := r6.lt); (try replace r6 := r6.below (za.mono zb)); (try have zh := r8s.lt); (try replace r8s := r8s.below (za.mono zb)); (try have zh := r8.lt); (try replace r8 := r8.below (za.mono zb)); simp only [zn])
 (refine zq (t := 30) rfl _ _ rfl _ rfl _ rfl r10 (by kernel_rfl) rfl (by simp [qR, Value.oneCell']) (qG B (by omega) ?_); clear r10 B; intro wn r10 ze zf zg B; simp only [zn])
 refine zy 1 ?_
 refine wpList_nil ?_
 clear lm
 clear rd
 clear wr
 clear rb
 clear r4
 clear rk
 clear r6
 clear r8s
 clear r8
 have lm := by first | exact H_lm.out.below B | exact H_lm.out.of_eq (B.block _ H_lm.out.lt)
 have rd := by first | exact H_rd.out.below B | exact H_rd.out.of_eq (B.block _ H_rd.out.lt)
 have wr := by first | exact H_wr.out.below B | exact H_wr.out.of_eq (B.block _ H_wr.out.lt)
 have rb := by first | exact H_rb.out.below B | exact H_rb.out.of_eq (B.block _ H_rb.out.lt)
 have r4 := by first | exact H_r4.out.below B | exact H_r4.out.of_eq (B.block _ H_r4.out.lt)
 have rk := by first | exact H_rk.out.below B | exact H_rk.out.of_eq (B.block _ H_rk.out.lt)
 have r6 := by first | exact H_r6.out.below B | exact H_r6.out.of_eq (B.block _ H_r6.out.lt)
 have r8s := by first | exact H_r8s.out.below B | exact H_r8s.out.of_eq (B.block _ H_r8s.out.lt)
 have r8 := by first | exact H_r8.out.below B | exact H_r8.out.of_eq (B.block _ H_r8.out.lt)
 clear H_lm
 clear H_rd
 clear H_wr
 clear H_rb
 clear H_r4
 clear H_rk
 clear H_r6
 clear H_r8s
 clear H_r8
 have B0 := BG.trans (B.mono hwsK)
 clear B BG hwsK
 have B := B0
 clear B0
 clear r10
 go_upto_region 7 with fail
 try have lx_lm := lm.lt
 try have lx_rd := rd.lt
 try have lx_wr := wr.lt
 try have lx_rb := rb.lt
 try have lx_r4 := r4.lt
 try have lx_rk := rk.lt
 try have lx_r6 := r6.lt
 try have lx_r8s := r8s.lt
 try have lx_r8 := r8.lt
 refine zF 62 [(2, zE ?v1_2), (14, zfV), (15, zE ?v1_15), (20, zE ?v1_20), (29, zE ?v1_29), (39, Jm), (40, zE ?v1_40), (47, Jm), (48, zE ?v1_48), (52, zE ?v1_52), (56, Jm), (57, zE ?v1_57)] (by kernel_rfl) (by kernel_rfl) (by kernel_rfl) ?_
 rotate_left 8
 simp only [jK, Nat.reduceAdd]
 refine xM 2 ?_
 repeat (first | go_big_quiet_skip | (go_big_quiet_want; first | ((first | refine jN rfl ⟨-1, -1, 7, 2⟩ ⟨-1, -1, 7, 2⟩ rfl rfl true (by decide) ?_ | refine qB ?_ | refine qC ?_); simp only [zn]; go_big_quiet_on) | (go_big_quiet_op; go_big_quiet_on)))
 refine wpQuiet_nil ?_
 refine zz (by rfl) (by first | rfl | simp [Region.wanted, yielded]) ?_ ?_
 ·intro wn za hE Kx hKx
  have zf := B.size; have zg := za.size; replace B := B.trans (za.mono B.size)
  (try replace lm := lm.below za)
  (try replace rd := rd.below za)
  (try replace wr := wr.below za)
  (try replace rb := rb.below za)
  (try replace r4 := r4.below za)
  (try replace rk := rk.below za)
  (try replace r6 := r6.below za)
  (try replace r8s := r8s.below za)
  (try replace r8 := r8.below za)
  refine zG rfl (enters_of Tryz.func18 (by kernel_rfl) rfl) (by simp only [Act.eval, qo]; rfl) ?_
  refine (Ks _ _ vI vI true wn rd wr.rs (by decide) (by decide) (by decide)).mono ?_; rintro e wm ⟨rfl, zl⟩; refine ⟨_, rfl, ?_⟩; have hz := hKx () wm trivial zl
  dsimp only [zE] at hz
  exact hz
 rintro ⟨⟩
 dsimp only [zE]
 simp only [zn]
 refine xM 11 ?_
 repeat (first | go_big_quiet_skip | (go_big_quiet_want; first | ((first | refine jN rfl ⟨-1, -1, 7, 2⟩ ⟨-1, -1, 7, 2⟩ rfl rfl true (by decide) ?_ | refine qB ?_ | refine qC ?_); simp only [zn]; go_big_quiet_on) | (go_big_quiet_op; go_big_quiet_on)))
 refine wpQuiet_nil ?_
 refine zz (by rfl) ?hw1_14 ?_ ?_
 case hw1_14 => kernel_rfl
 ·intro wn za hE Kx hKx
  have zf := B.size; have zg := za.size; replace B := B.trans (za.mono B.size)
  (try replace lm := lm.below za)
  (try replace rb := rb.below za)
  (try replace r4 := r4.below za)
  (try replace rk := rk.below za)
  (try replace r6 := r6.below za)
  (try replace r8s := r8s.below za)
  (try replace r8 := r8.below za)
  refine zG rfl (enters_of Tryz.func19 (by kernel_rfl) rfl) (by simp only [Act.eval, qo]; rfl) ?_
  refine (Z9 _ (spB qK 1) [] wn rb zdT ln4).mono ?_; rintro e wm ⟨a', c', rfl, _, zl⟩; exact ⟨_, rfl, hKx (a', c') wm trivial zl⟩
 rintro ⟨a54, c54⟩
 dsimp only [zE, zfV]
 simp only [zn]
 refine zz (by rfl) ?hw1_15 ?_ ?_
 case hw1_15 => kernel_rfl
 ·intro wn za hE Kx hKx
  have zf := B.size; have zg := za.size; replace B := B.trans (za.mono B.size)
  (try replace lm := lm.below za)
  (try replace r4 := r4.below za)
  (try replace rk := rk.below za)
  (try replace r6 := r6.below za)
  (try replace r8s := r8s.below za)
  (try replace r8 := r8.below za)
  refine y4 rfl Tryz.underlying35 rfl ?_; exact hKx () _ trivial (Below.refl _ _)
 rintro ⟨⟩
 dsimp only [zE]
 simp only [zn]
 refine xM 4 ?_
 repeat (first | go_big_quiet_skip | (go_big_quiet_want; first | ((first | refine jN rfl ⟨-1, -1, 7, 2⟩ ⟨-1, -1, 7, 2⟩ rfl rfl true (by decide) ?_ | refine qB ?_ | refine qC ?_); simp only [zn]; go_big_quiet_on) | (go_big_quiet_op; go_big_quiet_on)))
 refine wpQuiet_nil ?_
 refine zz (by rfl) ?hw1_20 ?_ ?_
 case hw1_20 => kernel_rfl
 ·intro wn za hE Kx hKx
  have zf := B.size; have zg := za.size; replace B := B.trans (za.mono B.size)
  (try replace lm := lm.below za)
  (try replace r4 := r4.below za)
  (try replace rk := rk.below za)
  (try replace r6 := r6.below za)
  (try replace r8s := r8s.below za)
  (try replace r8 := r8.below za)
  refine zG rfl (enters_of Tryz.func24 (by kernel_rfl) rfl) (by simp only [Act.eval, qo]; rfl) ?_
  refine (Vh ⟨8, 8, 8⟩ 0 0 191 wn (by simp only; omega) (by simp only; omega) (by simp only; omega) ln5).mono ?_
  rintro e wm ⟨rfl, zl⟩; refine ⟨_, rfl, ?_⟩; have hz := hKx () wm trivial zl
  dsimp only [zE] at hz
  exact hz
 rintro ⟨⟩
 dsimp only [zE]
 simp only [zn]
 refine xM 8 ?_
 repeat (first | go_big_quiet_skip | (go_big_quiet_want; first | ((first | refine jN rfl ⟨-1, -1, 7, 2⟩ ⟨-1, -1, 7, 2⟩ rfl rfl true (by decide) ?_ | refine qB ?_ | refine qC ?_); simp only [zn]; go_big_quiet_on) | (go_big_quiet_op; go_big_quiet_on)))
 refine wpQuiet_nil ?_
 refine zz (by rfl) ?hw1_29 ?_ ?_
 case hw1_29 => kernel_rfl
 ·intro wn za hE Kx hKx
  have zf := B.size; have zg := za.size; replace B := B.trans (za.mono B.size)
  (try replace lm := lm.below za)
  (try replace r4 := r4.below za)
  (try replace rk := rk.below za)
  (try replace r8s := r8s.below za)
  (try replace r8 := r8.below za)
  refine zG rfl (enters_of Tryz.func31 (by kernel_rfl) rfl) (by simp only [Act.eval, qo]; rfl) ?_
  refine (GETC.out _ wn rk).mono ?_; rintro e wm ⟨rfl, zl⟩; refine ⟨_, rfl, ?_⟩; have hz := hKx () wm trivial zl
  dsimp only [zE] at hz
  exact hz
 rintro ⟨⟩
 dsimp only [zE]
 simp only [zn]
 refine xM 9 ?_
 repeat (first | go_big_quiet_skip | (go_big_quiet_want; first | ((first | refine jN rfl ⟨-1, -1, 7, 2⟩ ⟨-1, -1, 7, 2⟩ rfl rfl true (by decide) ?_ | refine qB ?_ | refine qC ?_); simp only [zn]; go_big_quiet_on) | (go_big_quiet_op; go_big_quiet_on)))
 refine wpQuiet_nil ?_
 refine zz (by rfl) ?hw1_39 ?_ ?_
 case hw1_39 => kernel_rfl
 ·intro wn za hE Kx hKx
  have zf := B.size; have zg := za.size; replace B := B.trans (za.mono B.size)
  (try replace lm := lm.below za)
  (try replace r8s := r8s.below za)
  refine zG rfl (enters_of Tryz.func48 (by kernel_rfl) rfl) (by simp only [Act.eval, qo]; rfl) ?_
  refine (y6 wn).mono ?_; rintro e wm ⟨b', rfl, hr, zl⟩; exact ⟨_, rfl, hKx b' wm hr zl⟩
 rintro bl79
 dsimp only [zE, Jm]
 simp only [zn]
 refine zz (by rfl) ?hw1_40 ?_ ?_
 case hw1_40 => kernel_rfl
 ·intro wn za hE Kx hKx
  have zf := B.size; have zg := za.size; replace B := B.trans (za.mono B.size)
  (try replace lm := lm.below za)
  (try replace r8s := r8s.below za)
  have n79 := hE 39 (by kernel_rfl); change j9 _ _ _ _ at n79
  refine zG rfl (enters_of Tryz.func28 (by kernel_rfl) rfl) (by simp only [Act.eval, qo]; rfl) ?_
  refine (vW _ _ qK qK true wn r8s n79 (by decide) (by decide) (by decide)).mono ?_; rintro e wm ⟨rfl, zl⟩; refine ⟨_, rfl, ?_⟩; have hz := hKx () wm trivial zl
  dsimp only [zE] at hz
  exact hz
 rintro ⟨⟩
 dsimp only [zE]
 simp only [zn]
 refine xM 6 ?_
 repeat (first | go_big_quiet_skip | (go_big_quiet_want; first | ((first | refine jN rfl ⟨-1, -1, 7, 2⟩ ⟨-1, -1, 7, 2⟩ rfl rfl true (by decide) ?_ | refine qB ?_ | refine qC ?_); simp only [zn]; go_big_quiet_on) | (go_big_quiet_op; go_big_quiet_on)))
 refine wpQuiet_nil ?_
 refine zz (by rfl) ?hw1_47 ?_ ?_
 case hw1_47 => kernel_rfl
 ·intro wn za hE Kx hKx
  have zf := B.size; have zg := za.size; replace B := B.trans (za.mono B.size)
  (try replace lm := lm.below za)
  refine zG rfl (enters_of Tryz.func48 (by kernel_rfl) rfl) (by simp only [Act.eval, qo]; rfl) ?_
  refine (y6 wn).mono ?_; rintro e wm ⟨b', rfl, hr, zl⟩; exact ⟨_, rfl, hKx b' wm hr zl⟩
 rintro bl87
 dsimp only [zE, Jm]
 simp only [zn]
 refine zz (by rfl) ?hw1_48 ?_ ?_
 case hw1_48 => kernel_rfl
 ·intro wn za hE Kx hKx
  have zf := B.size; have zg := za.size; replace B := B.trans (za.mono B.size)
  (try replace lm := lm.below za)
  have n87 := hE 47 (by kernel_rfl); change j9 _ _ _ _ at n87
  refine zG rfl (enters_of Tryz.func16 (by kernel_rfl) rfl) (by simp only [Act.eval, qo]; rfl) ?_
  refine (xz _ qK true wn n87 Qu ln1).mono ?_; rintro e wm ⟨rfl, zl⟩; refine ⟨_, rfl, ?_⟩; have hz := hKx () wm trivial zl
  dsimp only [zE] at hz
  exact hz
 rintro ⟨⟩
 dsimp only [zE]
 simp only [zn]
 refine xM 3 ?_
 repeat (first | go_big_quiet_skip | (go_big_quiet_want; first | ((first | refine jN rfl ⟨-1, -1, 7, 2⟩ ⟨-1, -1, 7, 2⟩ rfl rfl true (by decide) ?_ | refine qB ?_ | refine qC ?_); simp only [zn]; go_big_quiet_on) | (go_big_quiet_op; go_big_quiet_on)))
 refine wpQuiet_nil ?_
 refine zz (by rfl) ?hw1_52 ?_ ?_
 case hw1_52 => kernel_rfl
 ·intro wn za hE Kx hKx
  have zf := B.size; have zg := za.size; replace B := B.trans (za.mono B.size)
  (try replace lm := lm.below za)
  refine zG rfl (enters_of Tryz.func16 (by kernel_rfl) rfl) (by simp only [Act.eval, qo]; rfl) ?_
  refine (xz (.slice none 0 0) Z8 false wn (qE.nil (E := qQ) 0 wn).rs (by decide) ln7).mono ?_; rintro e wm ⟨rfl, zl⟩; refine ⟨_, rfl, ?_⟩; have hz := hKx () wm trivial zl
  dsimp only [zE] at hz
  exact hz
 rintro ⟨⟩
 dsimp only [zE]
 simp only [zn]
 refine xM 3 ?_
 repeat (first | go_big_quiet_skip | (go_big_quiet_want; first | ((first | refine jN rfl ⟨-1, -1, 7, 2⟩ ⟨-1, -1, 7, 2⟩ rfl rfl true (by decide) ?_ | refine qB ?_ | refine qC ?_); simp only [zn]; go_big_quiet_on) | (go_big_quiet_op; go_big_quiet_on)))
 refine wpQuiet_nil ?_
 refine zz (by rfl) ?hw1_56 ?_ ?_
 case hw1_56 => kernel_rfl
 ·intro wn za hE Kx hKx
  have zf := B.size; have zg := za.size; replace B := B.trans (za.mono B.size)
  (try replace lm := lm.below za)
  refine zG rfl (enters_of Tryz.func48 (by kernel_rfl) rfl) (by simp only [Act.eval, qo]; rfl) ?_
  refine (y6 wn).mono ?_; rintro e wm ⟨b', rfl, hr, zl⟩; exact ⟨_, rfl, hKx b' wm hr zl⟩
 rintro bl96
 dsimp only [zE, Jm]
 simp only [zn]
 refine zz (by rfl) ?hw1_57 ?_ ?_
 case hw1_57 => kernel_rfl
 ·intro wn za hE Kx hKx
  have zf := B.size; have zg := za.size; replace B := B.trans (za.mono B.size)
  (try replace lm := lm.below za)
  have n96 := hE 56 (by kernel_rfl); change j9 _ _ _ _ at n96
  refine zG rfl (enters_of Tryz.func21 (by kernel_rfl) rfl) (by simp only [Act.eval, qo]; rfl) ?_
  refine (zaK _ qK ⟨-1, -1, 7, 2⟩ wn lm n96 Qu ln6).mono ?_; rintro e wm ⟨rfl, zl⟩; refine ⟨_, rfl, ?_⟩; have hz := hKx () wm trivial zl
  dsimp only [zE] at hz
  exact hz
 rintro ⟨⟩
 dsimp only [zE]
 simp only [zn]
 refine xM 4 ?_
 repeat (first | go_big_quiet_skip | (go_big_quiet_want; first | ((first | refine jN rfl ⟨-1, -1, 7, 2⟩ ⟨-1, -1, 7, 2⟩ rfl rfl true (by decide) ?_ | refine qB ?_ | refine qC ?_); simp only [zn]; go_big_quiet_on) | (go_big_quiet_op; go_big_quiet_on)))
 refine wpQuiet_nil ?_
 refine zY ?_
 intro wn za hE
 have zf := B.size
 have zg := za.size
 replace B := B.trans (za.mono B.size)
 have n79 := hE 39
 change j9 _ _ _ _ at n79
 have n87 := hE 47
 change j9 _ _ _ _ at n87
 have n96 := hE 56
 change j9 _ _ _ _ at n96
 clear hE
 try simp only [List.drop_succ_cons, List.drop_zero]
 refine zN.normal ?_
 go_wp2
 go_ret
 exact ⟨rfl, B⟩
end Go.Proofs.YtepelndbbhdofaaGreatDoor
/- How this seat's arguments are opened: slices of integers, rectangles, generated rasters. -/
namespace Go.Proofs.YtepelndbbhdofaaGreatDoor
open Go.ChangeShapes Go.WideShapes Go.ChangeAt Go.RowKit Pl
set_option linter.unusedVariables false
set_option linter.unusedSimpArgs false
set_option maxRecDepth 20000
theorem zct : reachBytes ≤ 140737488351232 := by decide
section
variable {H : Type} {enc : TypeId × Value → H} {w : World} {base : Nat} {spare : Nat → Bool} {held : Bool}
theorem WE (b off n : Nat) : (Addr.add ⟨b, off, none⟩ n) = ⟨b, off + n, none⟩ := by
 unfold Addr.add; split
 ·rename_i h; subst h; rfl
 ·rfl
theorem zav {fuel : Nat} {cs : List Value} {x : DataW H × List MemPlace} (h : DataW.trod enc Tryz.prog w base spare held fuel 22 cs = some x) (hw : ∀ n ∈ x.1.weights Tryz.prog 22, n ≤ reachBytes) :
  ∃ v L, cs = [v] ∧ j9 inE v L w ∧ L.length ≤ 17592186044416 := by
 have hC : Tryz.prog.cellsOf 3 = 1 := by kernel_rfl
 have hB : Tryz.prog.bytesOf 3 = 8 := by kernel_rfl
 rcases open_ints Tryz.underlying22 Tryz.underlying3 hC h with ⟨rfl, rfl⟩ | ⟨a, len, cap, zs, rfl, _, hl, hcap, hz, rfl, hcell, _⟩
 ·exact ⟨_, [], rfl, j9.nil w, by simp⟩
 ·have hzl : len ≤ zs.length := by rw [hz]; split <;> omega
  have htl : (zs.take len).length = len := by rw [List.length_take, Nat.min_eq_left hzl]
  refine ⟨_, zs.take len, rfl, ?_, ?_⟩
  ·by_cases h0 : len = 0
   ·subst h0; exact .inr (.inr ⟨a, cap, rfl, by simp⟩)
   ·obtain ⟨b, off, spot⟩ := a
    have c0 := hcell 0 (by omega); have hspot : spot = none := by simpa [Addr.add] using World.cell?_spot c0
    subst hspot; simp only [WE] at hcell c0; refine .inr (.inl ⟨b, off, cap, by rw [htl], by rw [htl]; exact hl, fun _ => ⟨World.block_lt_of_cell? w _ c0, fun i x hi j hj => ?_⟩⟩)
    obtain rfl : j = 0 := by omega
    have hil : i < len := by rw [← htl]; exact (List.getElem?_eq_some_iff.1 hi).1
    rw [List.getElem?_take_of_lt hil] at hi; rw [Nat.mul_one, Nat.add_zero, hcell i (by omega), List.getD_eq_getElem?_getD, hi]
    rfl
  ·rw [htl]
   have := hw ((len + (zs.length - len)) * 8) (by simp [DataW.weights, Tryz.underlying22, hB, lits, Nat.min_eq_left hzl]); have := zct; omega
theorem JH {fuel : Nat} {cs : List Value} {x : DataW H × List MemPlace} (h : DataW.trod enc Tryz.prog w base spare held fuel 3 cs = some x) : ∃ n : Int, cs = [.int .i64 n] ∧ (Lit.int .i64 n).wf = true := by
 obtain ⟨n, e, _, wf⟩ := DataW.trod_int Tryz.underlying3 h
 exact ⟨n, e, wf⟩
end
end Go.Proofs.YtepelndbbhdofaaGreatDoor
/- The door of chapter 14's laws: what the one listed variable gives the walks. -/
namespace Go.Proofs.YtepelndbbhdofaaGreatDoor
open Go.ChangeShapes Go.WideShapes Go.ChangeAt Go.RowKit Pl
set_option linter.unusedVariables false
set_option linter.unusedSimpArgs false
def Yl : List (String × DataW Unit) := [("gouache/stroke.limits", Rows.laid_gouache_stroke_limits)]
theorem zbA (os : Os) (args : Array Value) : laidMetH Tryz.prog Yl ((World.doorLaid Tryz.prog 400 os).forCall (fun _ _ => 0) ⟨#[], args, []⟩).memory :=
 laidMetH_of_parts3 (fuel := 8) (laidMet_of_run' 8 (by kernel_rfl) (by kernel_rfl)) (by kernel_rfl) (by kernel_rfl)
theorem VG : Tryz.prog.globalNamed "gouache/stroke.limits" = some 0 := by kernel_rfl
/-- WHAT THE CONDITION GIVES THE WALKS. -/
theorem Yn {W : World} (h : laidMetH Tryz.prog Yl W) : xG W := by
 rw [MakeChecks.laidMetH_plain _ _ _ (by kernel_rfl)] at h
 obtain ⟨ps, ⟨g, t, cs, fuel, p, q, hg, ht, hv, hd, _, _⟩, _⟩ := h
 obtain rfl := Option.some.inj (VG.symm.trans hg)
 have hty : (Tryz.prog.globals[0]?).map (·.type) = some 38 := by kernel_rfl
 obtain rfl := Option.some.inj (hty.symm.trans ht)
 have hC : Tryz.prog.cellsOf 3 = 1 := by kernel_rfl
 have hC4 : Tryz.prog.cellsOf 38 = 4 := by kernel_rfl
 obtain ⟨y0, y1, y2, y3, n, hx, hlen, h0, h1, h2, h3⟩ := Joins.trod_struct4 Tryz.underlying38 hd
 obtain ⟨c0, c1, c2, c3, rfl⟩ := Joins.array4 (show cs.size = 4 from by rw [← Array.length_toList, hlen, hC4])
 simp only [hC, List.drop_zero, List.drop_succ_cons, List.take_succ_cons, List.take_zero] at h0 h1 h2 h3
 obtain ⟨a, ea, ya, _⟩ := DataW.trod_int Tryz.underlying3 h0
 obtain ⟨b, eb, yb, _⟩ := DataW.trod_int Tryz.underlying3 h1
 obtain ⟨c, ec, yc, _⟩ := DataW.trod_int Tryz.underlying3 h2
 obtain ⟨e, ee, ye, _⟩ := DataW.trod_int Tryz.underlying3 h3
 subst ya yb yc ye
 simp only [Rows.laid_gouache_stroke_limits, Prod.mk.injEq, DataW.agg.injEq, List.cons.injEq, DataW.lit.injEq, Lit.int.injEq, true_and, and_true] at hx
 obtain ⟨⟨rfl, rfl, rfl, rfl⟩, _⟩ := hx
 simp at ea eb ec ee
 subst ea eb ec ee
 have hh : ∃ t k, W.heap[0]? = some (.cells #[.int .i64 (-65536), .int .i64 (-65536), .int .i64 65536, .int .i64 65536] t k) := by
  unfold World.var? at hv; rw [VG] at hv; simp only [Option.bind_some] at hv; split at hv
  ·rename_i cs2 t2 k2 he
   injection hv with hv
   subst hv; exact ⟨_, _, he⟩
  ·cases hv
 obtain ⟨t2, k2, hh⟩ := hh
 refine ⟨(Array.getElem?_eq_some_iff.1 hh).1, fun j hj => ?_⟩
 unfold World.cell?
 simp only [hh]
 rfl
end Go.Proofs.YtepelndbbhdofaaGreatDoor
/- Openers of chapter 14's arguments; masks. -/
namespace Go.Proofs.YtepelndbbhdofaaGreatDoor
open Go.ChangeShapes Go.WideShapes Go.ChangeAt Go.RowKit Pl
set_option linter.unusedVariables false
set_option linter.unusedSimpArgs false
set_option maxRecDepth 20000
section
variable {H : Type} {enc : TypeId × Value → H} {w : World} {base : Nat} {spare : Nat → Bool} {held : Bool}
end
theorem Jn (x : Int) : ∃ p : Int, bits .and .i64 x 65535 = p ∧ 0 ≤ p ∧ p ≤ 65535 := ⟨x % 65536, y5 x 16 65535 rfl (by decide), by omega, by omega⟩
/- Openers of chapter 14's arguments: rows of three and six integers, a Raw. -/
section
variable {H : Type} {enc : TypeId × Value → H} {w : World} {base : Nat} {spare : Nat → Bool} {held : Bool}
theorem zaa {r : Reach} {b0 : Nat} {v : Value} {d : DataW H} {p : List MemPlace} (hv : Value.okWide Tryz.prog w r b0 71 v)
  (h : DataW.Trod enc Tryz.prog w base spare held 71 v d p) : ∃ x0 x1 x2 : Int, v = .agg #[.int .i64 x0, .int .i64 x1, .int .i64 x2] ∧ (Lit.int .i64 x0).wf = true ∧ (Lit.int .i64 x1).wf = true ∧ (Lit.int .i64 x2).wf = true := by
 obtain ⟨cs, rfl, zf⟩ := Xk Tryz.underlying71 hv
 obtain ⟨fuel, hf⟩ := h
 have hC : Tryz.prog.cellsOf 3 = 1 := by kernel_rfl
 have hC2 : Tryz.prog.cellsOf 71 = 3 := by kernel_rfl
 rw [hC2] at zf
 obtain ⟨xs, m, _, _, _, hxl, hx⟩ := DataW.trod_array Tryz.underlying71 hf
 obtain ⟨l, rfl⟩ : ∃ l : List Value, cs = l.toArray := ⟨cs.toList, by simp⟩
 match l, (by simpa using zf : l.length = 3) with
 | [c0, c1, c2], _ =>
  have h0 := hx 0 (by omega); have h1 := hx 1 (by omega); have h2 := hx 2 (by omega); simp only [hC, Value.cells] at h0 h1 h2
  match xs, hxl, h0, h1, h2 with
  | [y0, y1, y2], _, h0, h1, h2 =>
   obtain ⟨a0, e0, _, w0⟩ := DataW.trod_int Tryz.underlying3 (x := y0) (by simpa using h0); obtain ⟨a1, e1, _, w1⟩ := DataW.trod_int Tryz.underlying3 (x := y1) (by simpa using h1); obtain ⟨a2, e2, _, w2⟩ := DataW.trod_int Tryz.underlying3 (x := y2) (by simpa using h2); simp at e0 e1 e2
   exact ⟨a0, a1, a2, by rw [e0, e1, e2], w0, w1, w2⟩
theorem KO {r : Reach} {b0 : Nat} {v : Value} {d : DataW H} {p : List MemPlace} (hv : Value.okWide Tryz.prog w r b0 24 v)
  (h : DataW.Trod enc Tryz.prog w base spare held 24 v d p) (hw : ∀ n ∈ d.weights Tryz.prog 24, n ≤ reachBytes) :
  ∃ (vL : Value) (L : List Int) (how val : Int), v = .agg #[vL, .int .i64 how, .int .i64 val] ∧ j9 inE vL L w ∧ L.length ≤ 17592186044416 ∧ (Lit.int .i64 how).wf = true ∧ (Lit.int .i64 val).wf = true := by
 obtain ⟨v0, v1, v2, y0, y1, y2, n, rfl, hd, _, h0, h1, h2⟩ := Joins.open_agg3 Tryz.underlying24 (by kernel_rfl) (by kernel_rfl) hv h
 have hww : ∀ n, n ∈ y0.1.weights Tryz.prog 22 → n ≤ reachBytes := fun n hn => by
  refine hw n ?_; rw [hd]; simp only [DataW.weights, Tryz.underlying24]; simp only [List.map_cons, List.map_nil, DataW.weightsEach, List.mem_append]; exact .inl hn
 obtain ⟨vL, L, eL, rL, lL⟩ := zav h0 fun n hn => hww n hn
 obtain ⟨how, eh, wh⟩ := JH h1
 obtain ⟨val, ev, wv⟩ := JH h2
 simp at eL eh ev
 subst eL; subst eh; subst ev
 exact ⟨_, L, how, val, rfl, rL, lL, wh, wv⟩
end
end Go.Proofs.YtepelndbbhdofaaGreatDoor
/- Plain: made strokes are valid, lie near the origin, and paint without an error. -/
namespace Go.Proofs.YtepelndbbhdofaaGreatDoor
open Go.RowKit Pl
set_option linter.unusedVariables false
set_option linter.unusedSimpArgs false
set_option maxRecDepth 20000
/-- Dabs within the bounds of the points. -/
def InD (m n R : Int) (d : Db) : Prop := (m ≤ d.x ∧ d.x ≤ n) ∧ (m ≤ d.y ∧ d.y ≤ n) ∧ 0 ≤ d.r ∧ d.r ≤ R
def InS (m n : Int) (a : Sp) : Prop := (m ≤ a.x ∧ a.x ≤ n) ∧ (m ≤ a.y ∧ a.y ≤ n)
theorem Zt (z : Int) : 0 ≤ z * z := by
 rcases Int.le_total 0 z with h | h
 ·exact Int.mul_nonneg h h
 ·have := Int.mul_nonneg (show 0 ≤ -z by omega) (show 0 ≤ -z by omega)
  rwa [Int.neg_mul_neg] at this
theorem zdP {a b : Sp} {D s : Int} (hs : 0 ≤ s) (hx : -D ≤ b.x - a.x ∧ b.x - a.x ≤ D) (hy : -D ≤ b.y - a.y ∧ b.y - a.y ≤ D) (h : D * D + D * D < (s + 1) * (s + 1)) : yd a b ≤ s := by
 have sq : ∀ {z : Int}, -D ≤ z ∧ z ≤ D → z * z ≤ D * D := fun {z} hz => (Xh (M := D) hz hz).2
 have h1 := sq hx
 have h2 := sq hy
 unfold yd
 rcases Int.lt_or_le s ((sqN (kq a b).toNat : Nat) : Int) with k | k
 ·have h3 : (s + 1).toNat ≤ sqN (kq a b).toNat := by omega
  have h4 := Xd.1 h3; have h5 : ((s + 1).toNat * (s + 1).toNat : Nat) ≤ (kq a b).toNat := h4; have h6 : (((s + 1).toNat * (s + 1).toNat : Nat) : Int) = (s + 1) * (s + 1) := by rw [Int.natCast_mul]; congr 1 <;> omega
  have h7 : kq a b ≤ D * D + D * D := Int.add_le_add h1 h2; have hnn : 0 ≤ kq a b := Int.add_nonneg (Zt _) (Zt _); have h8 : ((kq a b).toNat : Int) = kq a b := Int.toNat_of_nonneg hnn; have h9 : (s + 1) * (s + 1) ≤ kq a b := by rw [← h6, ← h8]; exact Int.ofNat_le.2 h5
  exact absurd (Int.lt_of_le_of_lt (Int.le_trans h9 h7) h) (Int.lt_irrefl _)
 ·exact k
theorem Wb {l : List Sp} {s : Int} (hs : 0 ≤ s) (h : ∀ j, j + 1 < l.length → yd (jg l j) (jg l (j + 1)) ≤ s) : ∀ k, k + 1 ≤ l.length → jr l k ≤ k * s
 | 0, _ => by show (0 : Int) ≤ _; omega
 | k + 1, hk => by
  have e : jr l (k + 1) = jr l k + yd (jg l k) (jg l (k + 1)) := rfl; have h1 := Wb hs h k (by omega); have h2 := h k hk; rw [e, Int.natCast_add, Int.add_mul]; omega
theorem W5 (L : List Int) (k : Nat) : InS (-100) 299 (uq L k) ∧ 0 ≤ (uq L k).p ∧ (uq L k).p ≤ 255 := by
 have h1 := jU L (6 + 3 * k) (m := 400) (by omega)
 have h2 := jU L (7 + 3 * k) (m := 400) (by omega)
 have h3 := jU L (8 + 3 * k) (m := 256) (by omega)
 unfold uq InS
 simp only
 omega
theorem VV (L : List Int) : ∀ a ∈ (qI L).pts, InS (-100) 299 a ∧ 0 ≤ a.p ∧ a.p ≤ 255 := fun a ha => by
 obtain ⟨k, _, rfl⟩ := List.mem_map.1 ha
 exact W5 L k
theorem yH (L : List Int) : (qI L).pts.length = madeN L := Zs _ _
theorem VW (L : List Int) : JW (qI L) := by
 have hn := wd L
 have hl := yH L
 have r0 := jU L 0 (m := 64) (by omega)
 have s0 := jU L 1 (m := 120) (by omega)
 have p0 := jU L 2 (m := 100) (by omega)
 have hat : ∀ j, j < (qI L).pts.length → InS (-100) 299 (jg (qI L).pts j) := fun j hj => (VV L _ (List.mem_of_getElem? (jc hj))).1
 have hlen : ∀ j, j + 1 < (qI L).pts.length → yd (jg (qI L).pts j) (jg (qI L).pts (j + 1)) ≤ 600 := fun j hj => by
  obtain ⟨a1, a2⟩ := hat j (by omega); obtain ⟨b1, b2⟩ := hat (j + 1) hj; exact zdP (D := 400) (by omega) (by omega) (by omega) (by decide)
 have hpre := Wb (by omega) hlen ((qI L).pts.length - 1) (by omega)
 have hspa : (qI L).spa = 8 + jI L 1 120 := rfl
 have hrad : (qI L).rad = 1 + jI L 0 64 := rfl
 have hpha : (qI L).pha = jI L 2 100 := rfl
 refine ⟨by omega, by omega, by omega, by omega, by omega, by omega, by omega, by omega, fun a ha => ?_, ?_⟩
 ·obtain ⟨⟨h1, h2⟩, h3, h4⟩ := VV L a ha
  unfold Zv; omega
 ·unfold xX
  have : (((qI L).pts.length - 1 : Nat) : Int) * 600 ≤ 5 * 600 := by omega
  omega
theorem KM (L : List Int) : ju (qI L) = true := (jR _).2 (VW L)
/- Plain: painting made strokes onto made rasters ends without an error. -/
def zhE : Rc := ⟨-3, -3, 4, 4⟩
theorem Ki.nil (R : Rc) : Ki R [] := fun e h => by cases h
theorem Xg (L : List Int) : (qI L).col.ok := zb2 _
end Go.Proofs.YtepelndbbhdofaaGreatDoor
