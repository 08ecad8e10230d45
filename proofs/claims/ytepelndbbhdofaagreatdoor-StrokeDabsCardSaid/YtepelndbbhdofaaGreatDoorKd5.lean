import Derived.Test.YtepelndbbhdofaaGreatDoorKd4
import Derived.SizedLaws
import Derived.ChangeSlices
import Derived.Test.YtepelndbbhdofaaGreatDoorTie
import Derived.Test.YtepelndbbhdofaaGreatDoorCards
import Derived.ProofKit
import Derived.OpenShut
import Derived.LaidMore
import Derived.Stop.Joined
import Derived.Stop.LaidErr
import Derived.Lib.LaidTab
import Derived.Lib.SmallJoins
import Derived.SevenTiedAt

/- Contracts of the reference's Dabs, Area. -/
namespace Go.Proofs.YtepelndbbhdofaaGreatDoor
open Go.RowKit Go.Shelf Pl
set_option linter.unusedVariables false
set_option linter.unusedSimpArgs false
set_option maxRecDepth 20000
theorem XB (w : World) (o : Oper) (ho : o.op = .buildSlice 26 0 #[]) (ev : Operand → Value) : (execOp ev o).run Tryz.prog w = .ok (.value (.slice (some ⟨w.heap.size, 0, none⟩) 0 0)) (w.alloc (.cells #[] 43)) := by
 obtain ⟨d, p, t, ps, af, gd⟩ := o
 simp only at ho
 subst ho
 kernel_rfl
/-- A slice of nothing, in memory of the call's own. -/
theorem ZU {ops : Array Oper} {rest : List Oper} {o : Oper} {a : Act} {w : World} {Q : Exit → Act → World → Prop} (hg : o.guard = none) (ho : o.op = .buildSlice 26 0 #[])
  (h : ∀ b w', w.heap.size ≤ b → b ≤ w.heap.size → qn spE b (.slice (some ⟨b, 0, none⟩) 0 0) [] w' → Below b w w' → w'.heap.size = b + 1 → wpList Tryz.prog ops Q rest (a.put o.dst (.slice (some ⟨b, 0, none⟩) 0 0)) w') : wpList Tryz.prog ops Q (o :: rest) a w :=
 wpList_plain hg fun K hK => by
  unfold Oper.wp; rw [XB w o ho]; exact hK _ _ (h _ _ (Nat.le_refl _) (Nat.le_refl _) ⟨rfl, .inr ⟨w.heap.size, 0, #[], rfl, Nat.le_refl _, by rw [zJ, if_pos rfl], Nat.le_refl _, by unfold maxLen; omega, rfl, rfl⟩⟩ ((Below.refl _ _).alloc (Nat.le_refl _) _) (World.size_alloc _ _))
theorem XA (w : World) (o : Oper) (ho : o.op = .buildSlice 35 0 #[]) (ev : Operand → Value) : (execOp ev o).run Tryz.prog w = .ok (.value (.slice (some ⟨w.heap.size, 0, none⟩) 0 0)) (w.alloc (.cells #[] 45)) := by
 obtain ⟨d, p, t, ps, af, gd⟩ := o
 simp only at ho
 subst ho
 kernel_rfl
/-- A slice of nothing, in memory of the call's own. -/
theorem vg {ops : Array Oper} {rest : List Oper} {o : Oper} {a : Act} {w : World} {Q : Exit → Act → World → Prop} (hg : o.guard = none) (ho : o.op = .buildSlice 35 0 #[])
  (h : ∀ b w', w.heap.size ≤ b → b ≤ w.heap.size → qn dbE b (.slice (some ⟨b, 0, none⟩) 0 0) [] w' → Below b w w' → w'.heap.size = b + 1 → wpList Tryz.prog ops Q rest (a.put o.dst (.slice (some ⟨b, 0, none⟩) 0 0)) w') : wpList Tryz.prog ops Q (o :: rest) a w :=
 wpList_plain hg fun K hK => by
  unfold Oper.wp; rw [XA w o ho]; exact hK _ _ (h _ _ (Nat.le_refl _) (Nat.le_refl _) ⟨rfl, .inr ⟨w.heap.size, 0, #[], rfl, Nat.le_refl _, by rw [zJ, if_pos rfl], Nat.le_refl _, by unfold maxLen; omega, rfl, rfl⟩⟩ ((Below.refl _ _).alloc (Nat.le_refl _) _) (World.size_alloc _ _))
def Zn (s : Stk) (k : Nat) : List Db := (List.range k).map (jz s)
theorem K7 (s : Stk) (k : Nat) : (Zn s k).length = k := by unfold Zn; rw [List.length_map, List.length_range]
theorem Ye (s : Stk) (k : Nat) : Zn s (k + 1) = Zn s k ++ [jz s k] := by
 unfold Zn
 rw [List.range_succ, List.map_append]
 rfl
theorem K6 {s : Stk} (h : s.pts.length = 1) : jP s = [jz s 0] := by
 unfold jP ju
 rw [if_pos h]
 rfl
set_option maxHeartbeats 8000000 in
theorem u9 (v : Value) (s : Stk) (L : List Db) (w : World) (rs : RSE spE v s.pts w) (hn : s.pts.length ≤ 17592186044416) (e : xL s = L) : Calls Tryz.prog 20 #[.agg (stC v s)] w fun e w' => ∃ a cp, e = .returned (.slice a L.length cp) ∧ qn dbE w.heap.size (.slice a L.length cp) L w' ∧ Below w.heap.size w w' := by
 have B := Below.refl w.heap.size w
 obtain ⟨a, c, rfl, hc⟩ := rs.len
 cases hv : jj s with
 | false =>
  obtain rfl : L = [] := by rw [← e]; unfold xL; rw [hv]; rfl
  have HV := Lib.hid hv; clear hv e; go_enter Tryz.func20, Tryz.ntmps20
  go_upto_region 0 with fail
  refine wp_region_lit ?_
  (refine zt (t := 30) rfl _ rfl _ rfl (alK B ?_); clear B; intro b_r1 wn zb zd r1 za zf zk B; (try have zh := rs.lt); (try replace rs := rs.below (za.mono zb)); simp only [zn])
  refine chk 1 ?_; refine wpList_nil ?_; go_upto_region 1 with fail
  refine wp_region_lit ?_
  (refine vg rfl rfl (alK B ?_); clear B; intro b_od wn zb zd od za zf zk B; (try have zh := r1.lt); (try replace r1 := r1.below (za.mono zb)); (try have zh := rs.lt); (try replace rs := rs.below (za.mono zb)); simp only [zn])
  refine chk 1 ?_; refine wpList_nil ?_; have hbo : w.heap.size ≤ b_od := by omega
  go_upto_region 2 with fail
  refine wp_region_lit ?_; refine chk 1 ?_
  refine clF (enters_of Tryz.func17 (by kernel_rfl) rfl) (c := ud _ s false _ rs hn HV.out) (h := ?_); rintro e wn ⟨rfl, za⟩; have zf := B.size; have zg := za.size; replace B := B.trans (za.mono B.size)
  (try replace r1 := r1.below za)
  (try replace rs := rs.below za)
  (try replace od := od.below za)
  refine ⟨_, rfl, ?_⟩; simp only [zn]; refine chk 1 ?_; refine wpList_nil ?_; go_upto_region 3 with fail
  refine wp_region_lit ?_; refine chk 2 ?_; refine wpList_nil ?_; go_upto_region 4 with fail
  refine wp_region_lit ?_; refine chk 2 ?_; refine wpList_nil ?_; go_wp2; go_ret; exact ⟨_, _, rfl, od.mono hbo, B⟩
 | true =>
  have hL : jP s = L := by rw [← e]; unfold xL; rw [hv]; rfl
  have HLL := Lib.hid hL; have HVS := Lib.hid ((jq s).1 hv); have HV := Lib.hid hv; have hl1 := HVS.out.l1; have hl2 := HVS.out.l2; have hs1 := HVS.out.s1; have hs2 := HVS.out.s2; have hr1 := HVS.out.r1; have hr2 := HVS.out.r2; have hq1 := HVS.out.p1; have hq2 := HVS.out.p2; obtain ⟨g, o, rfl, pc⟩ := rs.at (by omega); have HRS := Lib.hid rs; have hgl := pc.lt; have q0 : decide (0 < s.pts.length) = true := decide_eq_true (by omega); have q0' : decide ((0 : Int) < (s.pts.length : Int)) = true := decide_eq_true (by omega); clear hv e hL; go_enter Tryz.func20, Tryz.ntmps20
  go_upto_region 0 with fail
  refine wp_region_lit ?_
  (refine zt (t := 30) rfl _ rfl _ rfl (alK B ?_); clear B; intro b_r1 wn zb zd r1 za zf zk B; (try have zh := r1.lt); (try replace r1 := r1.below (za.mono zb)); (try have zh := pc.lt); (try replace pc := pc.below (za.mono zb)); (try have zh := rs.lt); (try replace rs := rs.below (za.mono zb)); simp only [zn])
  refine chk 1 ?_; refine wpList_nil ?_; go_upto_region 1 with fail
  refine wp_region_lit ?_
  (refine vg rfl rfl (alK B ?_); clear B; intro b_od wn zb zd od za zf zk B; (try have zh := r1.lt); (try replace r1 := r1.below (za.mono zb)); (try have zh := pc.lt); (try replace pc := pc.below (za.mono zb)); (try have zh := rs.lt); (try replace rs := rs.below (za.mono zb)); simp only [zn])
  refine chk 1 ?_; refine wpList_nil ?_; have hbo : w.heap.size ≤ b_od := by omega
  have hbr : b_r1 < b_od := by have := r1.lt; omega
  have hwr : w.heap.size ≤ b_r1 := by omega
  go_upto_region 2 with fail
  refine wp_region_lit ?_; refine chk 1 ?_
  refine clF (enters_of Tryz.func17 (by kernel_rfl) rfl) (c := ud _ s true _ rs hn HV.out) (h := ?_); rintro e wn ⟨rfl, za⟩; have zf := B.size; have zg := za.size; replace B := B.trans (za.mono B.size)
  (try replace r1 := r1.below za)
  (try replace pc := pc.below za)
  (try replace rs := rs.below za)
  (try replace od := od.below za)
  refine ⟨_, rfl, ?_⟩; simp only [zn]; refine chk 1 ?_; refine wpList_nil ?_; go_upto_region 3 with fail
  refine wp_region_lit ?_; refine chk 2 ?_; refine wpList_nil ?_; have hon : b_od < wn.heap.size := by omega
  go_upto_region 5 with fail
  by_cases h1 : s.pts.length = 1
  ·have q1 : ((s.pts.length : Int) == 1) = true := by rw [h1]; rfl
   have q1' : (s.pts.length == 1) = true := by rw [h1]; rfl
   have hp0 := qk (l := s.pts) (show 0 < s.pts.length by omega); obtain ⟨_, _, _, _, hpp1, hpp2⟩ := HVS.out.pt (show 0 < s.pts.length by omega); obtain ⟨R, hR⟩ : ∃ R, zO (s.rad * (pAt s.pts 0).p) 255 = R := ⟨_, rfl⟩; have HD := Lib.hid (show L = [⟨(pAt s.pts 0).x, (pAt s.pts 0).y, R⟩] from by rw [← HLL.out, K6 h1]; unfold jz; rw [if_pos h1]; unfold WS; rw [hR])
   have HR := Lib.hid hR; clear hR; refine wp_region_lit ?_; refine chk 2 ?_
   refine zw (by first | rfl | simp [Region.wanted, yielded]) rfl Tryz.underlying26 rfl ?_; simp only [zn]; refine chk 1 ?_; refine wpList_nil ?_; go_upto_region 6 with fail
   try have lx_r1 := r1.lt
   try have lx_pc := pc.lt
   try have lx_od := od.lt
   refine zG 19 [(17, zC ?v1_17), (18, bsG (wn.heap.size) 45 (dbE.enc ⟨(pAt s.pts 0).x, (pAt s.pts 0).y, R⟩))] (by kernel_rfl) (by kernel_rfl) (by kernel_rfl) ?_
   rotate_left 1
   simp only [jm, Nat.reduceAdd]; refine crq 17 ?_
   repeat (first | go_big_quiet_skip | (go_big_quiet_want; first | ((first | refine zo (t := 3) rfl _ _ _ rfl (fun w hw => zq (zdt (qz pc w hw) hp0)) (by first | rfl | omega) ?_ | refine zo (t := 3) rfl _ _ _ rfl (fun w hw => zq (zdu (qz pc w hw) hp0)) (by first | rfl | omega) ?_ | refine zo (t := 3) rfl _ _ _ rfl (fun w hw => zq (zdv (qz pc w hw) hp0)) (by first | rfl | omega) ?_ | refine qB ?_ | refine qC ?_); simp only [zn]; go_big_quiet_on) | (go_big_quiet_op; go_big_quiet_on)))
   refine wpQuiet_nil ?_; refine zy (by rfl) (by first | rfl | simp [Region.wanted, yielded]) ?_ ?_
   ·intro wn za hE Kx hKx
    have zf := B.size; have zg := za.size; replace B := B.trans (za.mono B.size)
    (try replace r1 := r1.below za)
    (try replace pc := pc.below za)
    (try replace od := od.below za)
    refine zB rfl (enters_of Tryz.func59 (by kernel_rfl) rfl) (by simp only [Act.eval, z6]; rfl) ?_
    refine (zcG _ s (pAt s.pts 0).x (pAt s.pts 0).y (pAt s.pts 0).p R wn ⟨by omega, hr2⟩ ⟨hpp1, hpp2⟩ HR.out).mono ?_; rintro e wm ⟨rfl, zl⟩; refine ⟨_, rfl, ?_⟩; have hz := hKx () wm trivial zl
    dsimp only [zC] at hz
    exact hz
   rintro ⟨⟩
   dsimp only [zC]
   simp only [zn]; refine zy (by rfl) (by first | rfl | simp [Region.wanted, yielded]) ?_ ?_
   ·intro wn za hE Kx hKx
    have zf := B.size; have zg := za.size; replace B := B.trans (za.mono B.size)
    (try replace r1 := r1.below za)
    (try replace pc := pc.below za)
    (try replace od := od.below za)
    refine wQ (E := dbE) _ rfl ⟨(pAt s.pts 0).x, (pAt s.pts 0).y, R⟩ rfl (by omega) ?_; intro b wm h1 h2 ht zl zm; exact hKx b wm ⟨Nat.le_trans za.size h1, ht⟩ (zl.mono h1)
   rintro b_s40
   dsimp only [zC, bsG]
   simp only [zn]; refine zW ?_; intro wn za hE; have zf := B.size; have zg := za.size; replace B := B.trans (za.mono B.size)
   (try replace r1 := r1.below za)
   (try replace pc := pc.below za)
   (try replace od := od.below za)
   obtain ⟨hge_s40, s40⟩ : _ ∧ AtB _ _ _ _ := hE 18; clear hE; try simp only [List.drop_succ_cons, List.drop_zero]
   go_wp2_with (first | (at_builtin; refine j0 rfl _ _ rfl _ _ rfl rfl od ((RSE.one s40)) (by simp only [List.length_append, List.length_cons, List.length_nil]; omega) (by omega) ?_; intro v_od wn ht za; have zf := B.size; have hbz := za.size; replace B := B.trans (za.mono (by omega)); clear od; (try replace r1 := r1.of_eq (za.block _ (by omega))); have od := ht; clear ht; obtain ⟨a_od, c_od, hv, hco⟩ := od.len; (try simp only [List.length_append, List.length_cons, List.length_nil, Nat.zero_add] at hv hco); subst hv; simp only [zn]) | fail)
   refine zK.normal ?_; go_wp2; go_ret; rw [HD.out]; exact ⟨_, _, rfl, od.mono hbo, B⟩
  ·have q1 : ((s.pts.length : Int) == 1) = false := by simp; omega
   have q1' : (s.pts.length == 1) = false := by simp; omega
   obtain ⟨tt, htt⟩ : ∃ t, jY s.pts = t := ⟨_, rfl⟩; have HTT := Lib.hid htt; have htb := HVS.out.tot; rw [htt] at htb; clear htt; refine wp_region_lit ?_; refine chk 2 ?_
   refine zw (by first | rfl | simp [Region.wanted, yielded]) rfl Tryz.underlying26 rfl ?_; simp only [zn]; refine chk 1 ?_; refine wpList_nil ?_; go_upto_region 7 with fail
   refine wp_region_lit ?_; refine chk 2 ?_
   refine clF (enters_of Tryz.func56 (by kernel_rfl) rfl) (c := YY _ s.pts tt _ rs hl2 HVS.out.ok HTT.out) (h := ?_); rintro e wn ⟨rfl, za⟩; have zf := B.size; have zg := za.size; replace B := B.trans (za.mono B.size)
   (try replace r1 := r1.below za)
   (try replace pc := pc.below za)
   (try replace rs := rs.below za)
   (try replace od := od.below za)
   refine ⟨_, rfl, ?_⟩; simp only [zn]; refine chk 1 ?_; refine wpList_nil ?_; go_upto_region 8 with fail
   refine wp_region_lit ?_; refine chk 3 ?_
   refine wpList_nil ?_; have hon : b_od < wn.heap.size := by omega
   clear rs; go_wp2; go_loopw [3, 6, 7, 8, 9, 10, 11] (fun ov dv _ _ _ _ _ wr => ∃ (k cp : Nat) (ad : Option Addr) (P : List Db) (d : Int), k ≤ ju s ∧ dv = .int .i64 d ∧ ov = .slice ad P.length cp ∧ Hid (d = s.pha + k * s.spa) ∧ (0 ≤ d ∧ d ≤ 5300000) ∧ Hid (Zn s k = P) ∧ qn dbE b_od (.slice ad P.length cp) P wr ∧ Below w.heap.size w wr ∧ b_od < wr.heap.size ∧ AtB 30 wr b_r1 (stC (.slice (some ⟨g, o, none⟩) s.pts.length c) s) ∧ zI spE g o s.pts wr) (fun _ dv _ _ _ _ _ _ => (tt - intOf dv).toNat)
   case atStart => exact ⟨0, 0, _, [], s.pha, by omega, rfl, rfl, Lib.hid (by show s.pha = s.pha + ((0 : Nat) : Int) * s.spa; omega), by omega, Lib.hid rfl, od, B, hon, r1, pc⟩
   case round =>
    clear B hon od r1 pc; obtain ⟨k, cp, ad, P, d, hk, rfl, rfl, HD, hd, HP, od, B, hon, r1, pc⟩ := hrel; have hPl : P.length ≤ 1024 := by rw [← HP.out, K7]; have := QT HVS.out; omega
    by_cases hdt : d < tt
    ·have q2 : decide (d < tt) = true := decide_eq_true hdt
     have hkc : k < ju s := (uW HVS.out h1).2 (by rw [HTT.out, ← HD.out]; exact hdt)
     have hp0 := qk (l := s.pts) (show 0 < s.pts.length by omega); have hp1 := qk (l := s.pts) (show 1 < s.pts.length by omega); have q3 : decide (1 < s.pts.length) = true := decide_eq_true (by omega); have q3' : decide ((1 : Int) < (s.pts.length : Int)) = true := decide_eq_true (by omega); have A1 := Lib.hid (HVS.out.pt (show 0 < s.pts.length by omega)); have A2 := Lib.hid (HVS.out.pt (show 1 < s.pts.length by omega)); obtain ⟨L0, hL0⟩ : ∃ L, j9 (pAt s.pts 0) (pAt s.pts 1) = L := ⟨_, rfl⟩; have HL0 := Lib.hid hL0; have hbd : d + s.spa ≤ 5300000 := by
      have e1 := zaF HVS.out (show k + 1 ≤ ju s by omega); have e2 := Zy s k; have e3 := HD.out; omega
     have HD2 := Lib.hid (show d + s.spa = s.pha + ((k + 1 : Nat) : Int) * s.spa from by rw [Zy, HD.out]); clear hL0; go_upto_region 9 with fail
     refine wp_region_lit ?_; refine chk 3 ?_; refine wpList_nil ?_; go_upto_region 11 with fail
     refine wp_region_lit ?_; refine chk 1 ?_; refine wpList_nil ?_; go_upto_region 12 with fail
     refine wp_region_lit ?_; refine chk 2 ?_; refine wpList_nil ?_; go_upto_region 13 with fail
     try have lx_r1 := r1.lt
     try have lx_pc := pc.lt
     try have lx_od := od.lt
     refine zG 10 [(8, zC ?v2_8)] (by kernel_rfl) (by kernel_rfl) (by kernel_rfl) ?_
     rotate_left 1
     simp only [jm, Nat.reduceAdd]; refine crq 8 ?_
     repeat (first | go_big_quiet_skip | (go_big_quiet_want; first | ((first | refine zo (t := 43) rfl _ _ _ rfl (fun w hw => (qz pc w hw).load Tryz.isAgg43 hp0) (by first | rfl | omega) ?_ | refine zo (t := 43) rfl _ _ _ rfl (fun w hw => (qz pc w hw).load Tryz.isAgg43 hp1) (by first | rfl | omega) ?_ | refine qB ?_ | refine qC ?_); simp only [zn]; go_big_quiet_on) | (go_big_quiet_op; go_big_quiet_on)))
     refine wpQuiet_nil ?_; refine zy (by rfl) (by first | rfl | simp [Region.wanted, yielded]) ?_ ?_
     ·intro wn za hE Kx hKx
      have zf := B.size; have zg := za.size; replace B := B.trans (za.mono B.size)
      (try replace r1 := r1.below za)
      (try replace pc := pc.below za)
      (try replace od := od.below za)
      refine zB rfl (enters_of Tryz.func60 (by kernel_rfl) rfl) (by simp only [Act.eval, z6]; rfl) ?_
      refine (Za (pAt s.pts 0) (pAt s.pts 1) L0 wn A1.out A2.out HL0.out).mono ?_; rintro e wm ⟨rfl, zl⟩; refine ⟨_, rfl, ?_⟩; have hz := hKx () wm trivial zl
      dsimp only [zC] at hz
      exact hz
     rintro ⟨⟩
     dsimp only [zC]
     simp only [zn]; refine crk 1 ?_; refine zW ?_; intro wn za hE; have zf := B.size; have zg := za.size; replace B := B.trans (za.mono B.size)
     (try replace r1 := r1.below za)
     (try replace pc := pc.below za)
     (try replace od := od.below za)
     clear hE; try simp only [List.drop_succ_cons, List.drop_zero]
     refine zK.normal ?_; have hon : b_od < wn.heap.size := by omega
     clear A1 A2 hp0 hp1 q3 q3'; go_wp2; go_loopw [7, 8, 9] (fun iv ev lv wr => ∃ (j : Nat) (lf L : Int), j + 1 < s.pts.length ∧ iv = .int .i64 (j : Int) ∧ ev = .int .i64 lf ∧ lv = .int .i64 L ∧ Hid (lf = d - qM s.pts j) ∧ (0 ≤ lf ∧ lf ≤ 5300000) ∧ Hid (j9 (pAt s.pts j) (pAt s.pts (j + 1)) = L) ∧ qn dbE b_od (.slice ad P.length cp) P wr ∧ Below w.heap.size w wr ∧ b_od < wr.heap.size ∧ AtB 30 wr b_r1 (stC (.slice (some ⟨g, o, none⟩) s.pts.length c) s) ∧ zI spE g o s.pts wr) (fun iv _ _ _ => (s.pts.length - intOf iv).toNat)
     case atStart => exact ⟨0, d, L0, by omega, rfl, rfl, rfl, Lib.hid (by show d = d - 0; omega), hd, HL0, od, B, hon, r1, pc⟩
     case round =>
      clear B hon od r1 pc; obtain ⟨j, lf, L2, hj, rfl, rfl, rfl, HLF, hlf, HL, od, B, hon, r1, pc⟩ := hrel; have A1 := Lib.hid (HVS.out.pt (show j < s.pts.length by omega)); have A2 := Lib.hid (HVS.out.pt hj); have hLb := wI A1.out A2.out; have hLn := vu (pAt s.pts j) (pAt s.pts (j + 1)); have HPR := Lib.hid (show qM s.pts (j + 1) = qM s.pts j + j9 (pAt s.pts j) (pAt s.pts (j + 1)) from rfl); rw [HL.out] at hLb hLn HPR; by_cases zh : L2 ≤ lf
      ·have q4 : decide (L2 ≤ lf) = true := decide_eq_true zh
       have hj2 : j + 1 + 1 < s.pts.length := by
        rcases Nat.lt_or_ge (j + 1 + 1) s.pts.length with k1 | k1
        ·exact k1
        ·have e1 : jY s.pts = qM s.pts (j + 1) := by unfold jY; rw [show s.pts.length - 1 = j + 1 by omega]
         have e2 := HPR.out; have e3 := HLF.out; have e4 := HTT.out; omega
       have hp1 := qk (l := s.pts) hj; have hp2 := qk (l := s.pts) hj2; have A3 := Lib.hid (HVS.out.pt hj2); obtain ⟨L3, hL3⟩ : ∃ L, j9 (pAt s.pts (j + 1)) (pAt s.pts (j + 1 + 1)) = L := ⟨_, rfl⟩; have HL3 := Lib.hid hL3; have HN := Lib.hid (show lf - L2 = d - qM s.pts (j + 1) from by rw [HPR.out, HLF.out]; omega)
       have q5 : decide (j + 1 < s.pts.length) = true := decide_eq_true hj; have q5' : decide ((j : Int) + 1 < (s.pts.length : Int)) = true := decide_eq_true (by omega); have q6 : decide (j + 1 + 1 < s.pts.length) = true := decide_eq_true hj2; have q6' : decide ((j : Int) + 1 + 1 < (s.pts.length : Int)) = true := decide_eq_true (by omega); clear hL3
       generalize hx1 : pAt s.pts (j + 1) = x1 at *
       generalize hx2 : pAt s.pts (j + 1 + 1) = x2 at *
       go_upto_region 14 with fail
       refine wp_region_lit ?_; refine chk 3 ?_; refine wpList_nil ?_; go_upto_region 15 with fail
       refine wp_region_lit ?_; refine chk 4 ?_; refine wpList_nil ?_; go_upto_region 16 with fail
       refine wp_region_lit ?_; refine chk 3 ?_; refine wpList_nil ?_; go_upto_region 17 with fail
       have HX1 := Lib.hid hx1; have HX2 := Lib.hid hx2; clear hx1 hx2; try have lx_r1 := r1.lt
       try have lx_pc := pc.lt
       try have lx_od := od.lt
       refine zG 13 [(11, zC ?v3_11)] (by kernel_rfl) (by kernel_rfl) (by kernel_rfl) ?_
       rotate_left 1
       simp only [jm, Nat.reduceAdd]; refine crq 11 ?_
       repeat (first | go_big_quiet_skip | (go_big_quiet_want; first | ((first | refine zo (t := 43) rfl _ _ _ rfl (fun w hw => (qz pc w hw).load Tryz.isAgg43 hp1) (by first | rfl | omega) ?_ | refine zo (t := 43) rfl _ _ _ rfl (fun w hw => (qz pc w hw).load Tryz.isAgg43 hp2) (by first | rfl | omega) ?_ | refine qB ?_ | refine qC ?_); simp only [zn]; go_big_quiet_on) | (go_big_quiet_op; go_big_quiet_on)))
       refine wpQuiet_nil ?_; refine zy (by rfl) (by first | rfl | simp [Region.wanted, yielded]) ?_ ?_
       ·intro wn za hE Kx hKx
        have zf := B.size; have zg := za.size; replace B := B.trans (za.mono B.size)
        (try replace r1 := r1.below za)
        (try replace pc := pc.below za)
        (try replace od := od.below za)
        refine zB rfl (enters_of Tryz.func60 (by kernel_rfl) rfl) (by simp only [Act.eval, z6]; rfl) ?_
        refine (Za x1 x2 L3 wn A2.out A3.out HL3.out).mono ?_; rintro e wm ⟨rfl, zl⟩; refine ⟨_, rfl, ?_⟩; have hz := hKx () wm trivial zl
        dsimp only [zC] at hz
        exact hz
       rintro ⟨⟩
       dsimp only [zC]
       simp only [zn]; refine crk 1 ?_; refine zW ?_; intro wn za hE; have zf := B.size; have zg := za.size; replace B := B.trans (za.mono B.size)
       (try replace r1 := r1.below za)
       (try replace pc := pc.below za)
       (try replace od := od.below za)
       clear hE; try simp only [List.drop_succ_cons, List.drop_zero]
       refine zK.normal ?_; have hon : b_od < wn.heap.size := by omega
       go_wp2; go_roundw
       case rel => exact ⟨j + 1, lf - L2, L3, hj2, by go_num, rfl, rfl, HN, by omega, Lib.hid (by rw [HX1.out, HX2.out]; exact HL3.out), od, B, hon, r1, pc⟩
       case measure => simp [intOf]; omega
      ·have q4 : decide (L2 ≤ lf) = false := decide_eq_false zh
       have hp0 := qk (l := s.pts) (show j < s.pts.length by omega); have hp1 := qk (l := s.pts) hj; have q5 : decide (j < s.pts.length) = true := decide_eq_true (by omega); have q5' : decide ((j : Int) < (s.pts.length : Int)) = true := decide_eq_true (by omega); have q6 : decide (j + 1 < s.pts.length) = true := decide_eq_true hj; have q6' : decide ((j : Int) + 1 < (s.pts.length : Int)) = true := decide_eq_true (by omega); have HDK := Lib.hid (show jz s k = K5 s (pAt s.pts j) (pAt s.pts (j + 1)) lf L2 from by
        have e1 := HLF.out; have e2 := HPR.out; have e3 := HD.out; have := Y6 (s := s) (k := k) (j := j) h1 (by omega) (by omega) (by omega); rw [this, HL.out, ← e3, ← e1])
       clear HL HPR
       generalize hx1 : pAt s.pts j = x1 at *
       generalize hx2 : pAt s.pts (j + 1) = x2 at *
       clear hx1 hx2; obtain ⟨a1, a2, a3, a4, a5, a6⟩ := A1.out; obtain ⟨c1, c2, c3, c4, c5, c6⟩ := A2.out; have hlt2 : lf < L2 := by omega
       obtain ⟨m1, m2⟩ := wa (M := 5300000) (p := x2.x - x1.x) (q := lf) (by omega) (by omega); obtain ⟨m3, m4⟩ := wa (M := 5300000) (p := x2.y - x1.y) (q := lf) (by omega) (by omega); obtain ⟨m5, m6⟩ := wa (M := 5300000) (p := x2.p - x1.p) (q := lf) (by omega) (by omega); obtain ⟨b1, b2⟩ := kf (a := x1.x) (b := x2.x) hlf.1 hlt2 ⟨a1, a2⟩ ⟨c1, c2⟩; obtain ⟨b3, b4⟩ := kf (a := x1.y) (b := x2.y) hlf.1 hlt2 ⟨a3, a4⟩ ⟨c3, c4⟩; obtain ⟨b5, b6⟩ := kf (a := x1.p) (b := x2.p) hlf.1 hlt2 ⟨a5, a6⟩ ⟨c5, c6⟩; obtain ⟨qx, hqx⟩ : ∃ q, zO ((x2.x - x1.x) * lf) L2 = q := ⟨_, rfl⟩; obtain ⟨qy, hqy⟩ : ∃ q, zO ((x2.y - x1.y) * lf) L2 = q := ⟨_, rfl⟩; obtain ⟨qp, hqp⟩ : ∃ q, zO ((x2.p - x1.p) * lf) L2 = q := ⟨_, rfl⟩; rw [hqx] at b1 b2; rw [hqy] at b3 b4; rw [hqp] at b5 b6; obtain ⟨R, hR⟩ : ∃ R, zO (s.rad * (x1.p + qp)) 255 = R := ⟨_, rfl⟩; have HE := Lib.hid (show Zn s (k + 1) = P ++ [⟨x1.x + qx, x1.y + qy, R⟩] from by
        rw [Ye, HP.out, HDK.out]; show P ++ [(⟨x1.x + zO ((x2.x - x1.x) * lf) L2, x1.y + zO ((x2.y - x1.y) * lf) L2, zO (s.rad * (x1.p + zO ((x2.p - x1.p) * lf) L2)) 255⟩ : Db)] = _
        rw [hqx, hqy, hqp, hR])
       have HQX := Lib.hid hqx; have HQY := Lib.hid hqy; have HQP := Lib.hid hqp; have HR := Lib.hid hR; clear hqx hqy hqp hR; go_upto_region 14 with fail
       refine wp_region_lit ?_; refine chk 3 ?_; refine wpList_nil ?_; have BW := B; have HOD := Lib.hid od; have B := Below.refl wr.heap.size wr; have hr1l := r1.lt; have hpcl := pc.lt; go_upto_region 18 with fail
       refine wp_region_lit ?_; refine chq 5 ?_
       repeat (first | go_big_quiet_skip | (go_big_quiet_want; first | ((first | refine zo (t := 43) rfl _ _ _ rfl (fun w hw => (qz pc w hw).load Tryz.isAgg43 hp0) (by first | rfl | omega) ?_ | refine qB ?_ | refine qC ?_); simp only [zn]; go_big_quiet_on) | (go_big_quiet_op; go_big_quiet_on)))
       refine wpQuiet_nil ?_
       (refine zu (t := 43) rfl _ (jl _ _ rfl) (alK B ?_); clear B; intro b_x10 wn zb zd x10 za zf zk B; (try have zh := r1.lt); (try replace r1 := r1.below (za.mono zb)); (try have zh := pc.lt); (try replace pc := pc.below (za.mono zb)); simp only [zn])
       (refine zr (t := 43) rfl _ _ rfl _ rfl _ rfl x10 (by kernel_rfl) rfl (by simp [spE, Value.oneCell']) (stK B (by omega) ?_); clear x10 B; intro wn x10 ze zf zg B; (try replace r1 := r1.of_eq (ze.block _ r1.lt (by omega))); (try replace pc := pc.of_eq (ze.block _ pc.lt (by omega))); simp only [zn])
       refine wpList_nil ?_; replace x10 : AtB 43 _ b_x10 (spE.enc x1) := x10; have h10 := x10.lt; go_upto_region 19 with fail
       refine wp_region_lit ?_; refine chq 6 ?_
       repeat (first | go_big_quiet_skip | (go_big_quiet_want; first | ((first | refine zo (t := 43) rfl _ _ _ rfl (fun w hw => (qz pc w hw).load Tryz.isAgg43 hp1) (by first | rfl | omega) ?_ | refine qB ?_ | refine qC ?_); simp only [zn]; go_big_quiet_on) | (go_big_quiet_op; go_big_quiet_on)))
       refine wpQuiet_nil ?_
       (refine zu (t := 43) rfl _ (jl _ _ rfl) (alK B ?_); clear B; intro b_x11 wn zb zd x11 za zf zk B; (try have zh := r1.lt); (try replace r1 := r1.below (za.mono zb)); (try have zh := pc.lt); (try replace pc := pc.below (za.mono zb)); (try have zh := x10.lt); (try replace x10 := x10.below (za.mono zb)); simp only [zn])
       (refine zr (t := 43) rfl _ _ rfl _ rfl _ rfl x11 (by kernel_rfl) rfl (by simp [spE, Value.oneCell']) (stK B (by omega) ?_); clear x11 B; intro wn x11 ze zf zg B; (try replace r1 := r1.of_eq (ze.block _ r1.lt (by omega))); (try replace pc := pc.of_eq (ze.block _ pc.lt (by omega))); (try replace x10 := x10.of_eq (ze.block _ x10.lt (by omega))); simp only [zn])
       refine wpList_nil ?_; replace x11 : AtB 43 _ b_x11 (spE.enc x2) := x11; replace od := HOD.out.below B; have B0 := BW.trans (B.mono BW.size); clear B; have B := B0; clear B0 BW; have hon : b_od < wn.heap.size := by omega
       go_upto_region 20 with fail
       try have lx_r1 := r1.lt
       try have lx_pc := pc.lt
       try have lx_x10 := x10.lt
       try have lx_x11 := x11.lt
       try have lx_od := od.lt
       refine zG 40 [(12, zC ?v4_12), (24, zC ?v4_24), (36, zC ?v4_36), (38, zC ?v4_38), (39, bsG (wn.heap.size) 45 (dbE.enc ⟨x1.x + qx, x1.y + qy, R⟩))] (by kernel_rfl) (by kernel_rfl) (by kernel_rfl) ?_
       rotate_left 4
       simp only [jm, Nat.reduceAdd]; refine crk 12 ?_
       refine zy (by rfl) (by first | rfl | simp [Region.wanted, yielded]) ?_ ?_
       ·intro wn za hE Kx hKx
        have zf := B.size; have zg := za.size; replace B := B.trans (za.mono B.size)
        (try replace r1 := r1.below za)
        (try replace pc := pc.below za)
        (try replace x10 := x10.below za)
        (try replace x11 := x11.below za)
        (try replace od := od.below za)
        refine zB rfl (enters_of Tryz.func23 (by kernel_rfl) rfl) (by simp only [Act.eval, z6]; rfl) ?_
        refine (vn ((x2.x - x1.x) * lf) L2 qx wn (by omega) (by omega) (by omega) (by omega) HQX.out).mono ?_; rintro e wm ⟨rfl, zl⟩; refine ⟨_, rfl, ?_⟩; have hz := hKx () wm trivial zl
        dsimp only [zC] at hz
        exact hz
       rintro ⟨⟩
       dsimp only [zC]
       simp only [zn]; refine crk 11 ?_
       refine zy (by rfl) (by first | rfl | simp [Region.wanted, yielded]) ?_ ?_
       ·intro wn za hE Kx hKx
        have zf := B.size; have zg := za.size; replace B := B.trans (za.mono B.size)
        (try replace r1 := r1.below za)
        (try replace pc := pc.below za)
        (try replace x10 := x10.below za)
        (try replace x11 := x11.below za)
        (try replace od := od.below za)
        refine zB rfl (enters_of Tryz.func23 (by kernel_rfl) rfl) (by simp only [Act.eval, z6]; rfl) ?_
        refine (vn ((x2.y - x1.y) * lf) L2 qy wn (by omega) (by omega) (by omega) (by omega) HQY.out).mono ?_; rintro e wm ⟨rfl, zl⟩; refine ⟨_, rfl, ?_⟩; have hz := hKx () wm trivial zl
        dsimp only [zC] at hz
        exact hz
       rintro ⟨⟩
       dsimp only [zC]
       simp only [zn]; refine crk 11 ?_
       refine zy (by rfl) (by first | rfl | simp [Region.wanted, yielded]) ?_ ?_
       ·intro wn za hE Kx hKx
        have zf := B.size; have zg := za.size; replace B := B.trans (za.mono B.size)
        (try replace r1 := r1.below za)
        (try replace pc := pc.below za)
        (try replace x10 := x10.below za)
        (try replace x11 := x11.below za)
        (try replace od := od.below za)
        refine zB rfl (enters_of Tryz.func23 (by kernel_rfl) rfl) (by simp only [Act.eval, z6]; rfl) ?_
        refine (vn ((x2.p - x1.p) * lf) L2 qp wn (by omega) (by omega) (by omega) (by omega) HQP.out).mono ?_; rintro e wm ⟨rfl, zl⟩; refine ⟨_, rfl, ?_⟩; have hz := hKx () wm trivial zl
        dsimp only [zC] at hz
        exact hz
       rintro ⟨⟩
       dsimp only [zC]
       simp only [zn]; refine crk 1 ?_; refine zy (by rfl) (by first | rfl | simp [Region.wanted, yielded]) ?_ ?_
       ·intro wn za hE Kx hKx
        have zf := B.size; have zg := za.size; replace B := B.trans (za.mono B.size)
        (try replace r1 := r1.below za)
        (try replace pc := pc.below za)
        (try replace x10 := x10.below za)
        (try replace x11 := x11.below za)
        (try replace od := od.below za)
        refine zB rfl (enters_of Tryz.func59 (by kernel_rfl) rfl) (by simp only [Act.eval, z6]; rfl) ?_
        refine (zcG _ s (x1.x + qx) (x1.y + qy) (x1.p + qp) R wn ⟨by omega, hr2⟩ ⟨b5, b6⟩ HR.out).mono ?_; rintro e wm ⟨rfl, zl⟩; refine ⟨_, rfl, ?_⟩; have hz := hKx () wm trivial zl
        dsimp only [zC] at hz
        exact hz
       rintro ⟨⟩
       dsimp only [zC]
       simp only [zn]; refine zy (by rfl) (by first | rfl | simp [Region.wanted, yielded]) ?_ ?_
       ·intro wn za hE Kx hKx
        have zf := B.size; have zg := za.size; replace B := B.trans (za.mono B.size)
        (try replace r1 := r1.below za)
        (try replace pc := pc.below za)
        (try replace x10 := x10.below za)
        (try replace x11 := x11.below za)
        (try replace od := od.below za)
        refine wQ (E := dbE) _ rfl ⟨x1.x + qx, x1.y + qy, R⟩ rfl (by omega) ?_; intro b wm h1 h2 ht zl zm; exact hKx b wm ⟨Nat.le_trans za.size h1, ht⟩ (zl.mono h1)
       rintro b_s134
       dsimp only [zC, bsG]
       simp only [zn]; refine zW ?_; intro wn za hE; have zf := B.size; have zg := za.size; replace B := B.trans (za.mono B.size)
       (try replace r1 := r1.below za)
       (try replace pc := pc.below za)
       (try replace x10 := x10.below za)
       (try replace x11 := x11.below za)
       (try replace od := od.below za)
       obtain ⟨hge_s134, s134⟩ : _ ∧ AtB _ _ _ _ := hE 39; clear hE; try simp only [List.drop_succ_cons, List.drop_zero]
       clear x10 x11; go_wp2_with (first | (at_builtin; refine j0 rfl _ _ rfl _ _ rfl rfl od ((RSE.one s134)) (by simp only [List.length_append, List.length_cons, List.length_nil]; omega) (by omega) ?_; intro v_od wn ht za; have zf := B.size; have hbz := za.size; replace B := B.trans (za.mono (by omega)); clear od; (try replace r1 := r1.of_eq (za.block _ (by omega))); have od := ht; clear ht; obtain ⟨a_od, c_od, hv, hco⟩ := od.len; (try simp only [List.length_append, List.length_cons, List.length_nil, Nat.zero_add] at hv hco); subst hv; simp only [zn]) | fail)
       refine zK.normal ?_; have r1 := r1; have hon : b_od < wn.heap.size := by omega
       replace pc := HRS.out.at (by omega); obtain ⟨g2, o2, e2, pc2⟩ := pc; obtain ⟨rfl, rfl⟩ : g = g2 ∧ o = o2 := by simpa using e2
       have pc := pc2.of_eq (B.block _ pc2.lt); clear e2 pc2; go_upto_region 10 with fail
       refine wp_region_lit ?_; refine chk 5 ?_
       refine wpList_nil ?_; go_wp2; go_roundw
       case rel => exact ⟨k + 1, _, _, P ++ [⟨x1.x + qx, x1.y + qy, R⟩], d + s.spa, by omega, rfl, by rw [List.length_append]; rfl, HD2, by omega, HE, by rw [List.length_append]; exact od, B, hon, r1, pc⟩
       case measure => simp [intOf]; omega
    ·have q2 : decide (d < tt) = false := decide_eq_false hdt
     have HF := Lib.hid (show L = P from by
      have e1 := uW HVS.out h1 (k := k); have e2 := HD.out; have e3 := HTT.out; rw [← HLL.out, ← HP.out, show k = ju s by omega]
      rfl)
     go_upto_region 9 with fail
     refine wp_region_lit ?_; refine chk 3 ?_; refine wpList_nil ?_; go_upto_region 21 with fail
     refine wp_region_lit ?_; refine chk 2 ?_; refine wpList_nil ?_; go_wp2; go_ret; rw [HF.out]; exact ⟨_, _, rfl, od.mono hbo, B⟩
set_option maxHeartbeats 4000000 in
theorem WA (v : Value) (s : Stk) (q : Rc) (w : World) (rs : RSE spE v s.pts w) (hn : s.pts.length ≤ 17592186044416) (e : YZ s = q) : Calls Tryz.prog 22 #[.agg (stC v s)] w fun e w' => e = .returned (.agg (rcA q)) ∧ Below w.heap.size w w' := by
 have B := Below.refl w.heap.size w
 have HRS := Lib.hid rs
 have HL := Lib.hid (vp s)
 have HOK := Lib.hid (JS s)
 obtain ⟨L, hL⟩ : ∃ L, xL s = L := ⟨_, rfl⟩
 have HE := Lib.hid (show xB (wu L) ui = q from by rw [← e, ← hL]; rfl)
 have HLS := Lib.hid hL
 rw [hL] at HL HOK
 have hLn := HL.out
 clear e hL
 go_enter Tryz.func22, Tryz.ntmps22
 go_upto_region 0 with fail
 refine wp_region_lit ?_
 (refine zt (t := 30) rfl _ rfl _ rfl (alK B ?_); clear B; intro b_r1 wn zb zd r1 za zf zk B; (try have zh := rs.lt); (try replace rs := rs.below (za.mono zb)); simp only [zn])
 (refine zu (t := 38) rfl _ (zF _ _ rfl) (alK B ?_); clear B; intro b_r2 wn zb zd r2 za zf zk B; (try have zh := r1.lt); (try replace r1 := r1.below (za.mono zb)); (try have zh := rs.lt); (try replace rs := rs.below (za.mono zb)); simp only [zn])
 refine wpList_nil ?_
 go_upto_region 1 with fail
 refine wp_region_lit ?_
 refine chk 1 ?_
 (refine zu (t := 38) rfl _ (zF _ _ rfl) (alK B ?_); clear B; intro b_r3 wn zb zd r3 za zf zk B; (try have zh := r1.lt); (try replace r1 := r1.below (za.mono zb)); (try have zh := r2.lt); (try replace r2 := r2.below (za.mono zb)); (try have zh := rs.lt); (try replace rs := rs.below (za.mono zb)); simp only [zn])
 (refine zr (t := 38) rfl _ _ rfl _ rfl _ rfl r3 (by kernel_rfl) rfl (by simp [rcA, dbE, Value.oneCell']) (stK B (by omega) ?_); clear r3 B; intro wn r3 ze zf zg B; (try replace r1 := r1.of_eq (ze.block _ r1.lt (by omega))); (try replace r2 := r2.of_eq (ze.block _ r2.lt (by omega))); simp only [zn])
 refine wpList_nil ?_
 replace r3 : AtB 38 _ b_r3 (rcA Rc.zero) := r3
 have k1 : b_r2 < b_r3 := by have := r2.lt; omega
 have k2 : w.heap.size ≤ b_r2 := by omega
 obtain ⟨b0, hb0⟩ : ∃ b0, b0 = wn.heap.size := ⟨_, rfl⟩
 have k3 : b_r3 < b0 := by have := r3.lt; omega
 have HB0 := Lib.hid hb0
 clear hb0
 replace rs := HRS.out.below B
 go_upto_region 2 with fail
 refine wp_region_lit ?_
 refine chk 1 ?_
 refine clF (enters_of Tryz.func20 (by kernel_rfl) rfl) (c := u9 _ s L _ rs hn HLS.out) (h := ?_)
 rintro e wn ⟨ad, cd, rfl, od, za⟩
 have zf := B.size
 have zg := za.size
 replace B := B.trans (za.mono B.size)
 (try replace r1 := r1.below za)
 (try replace r2 := r2.below za)
 (try replace r3 := r3.below za)
 (try replace rs := rs.below za)
 rw [← HB0.out] at od
 refine ⟨_, rfl, ?_⟩
 simp only [zn]
 refine chk 1 ?_
 refine wpList_nil ?_
 have k4 : b0 ≤ wn.heap.size := by have := HB0.out; omega
 clear rs r1
 go_wp2
 go_loopw [5] (fun iv wr => ∃ (k : Nat) (A : Rc), k ≤ L.length ∧ iv = .int .i64 (k : Int) ∧ Hid (wu (L.take k) = A) ∧ Below w.heap.size w wr ∧ b0 ≤ wr.heap.size ∧ AtB 38 wr b_r2 #[.int .i64 0, .int .i64 0, .int .i64 0, .int .i64 0] ∧ AtB 38 wr b_r3 (rcA A) ∧ qn dbE b0 (.slice ad L.length cd) L wr) (fun iv _ => (L.length - intOf iv).toNat)
 case atStart => exact ⟨0, Rc.zero, by omega, rfl, Lib.hid rfl, B, k4, r2, r3, od⟩
 case round =>
  clear B k4 r2 r3 od; obtain ⟨k, A, hk, rfl, HA, B, k4, r2, r3, od⟩ := hrel; by_cases hkl : k < L.length
  ·have q1 : decide ((k : Int) < (L.length : Int)) = true := decide_eq_true (by omega)
   have q2 : decide (k < L.length) = true := decide_eq_true hkl; obtain ⟨g, o, rfl, pc⟩ := od.rs.at (by omega); have hp := wB hkl; have OKD := Lib.hid (HOK.out _ (List.mem_of_getElem? hp)); have HST := Lib.hid (Z9 L hp); rw [HA.out] at HST
   generalize hx1 : K4 L k = x1 at *
   clear hx1; obtain ⟨o1, o2, o3, o4, o5, o6⟩ := OKD.out; by_cases hr : 0 < x1.r
   ·have q3 : decide (0 < x1.r) = true := decide_eq_true hr
    rw [if_pos hr] at HST; obtain ⟨qs, hqs⟩ : ∃ q, yG x1 = q := ⟨_, rfl⟩; obtain ⟨A2, hA2⟩ : ∃ q, ja A qs = q := ⟨_, rfl⟩; rw [hqs, hA2] at HST; have HQS := Lib.hid hqs; have HA2 := Lib.hid hA2; clear hqs hA2; go_upto_region 4 with fail
    refine wp_region_lit ?_; refine chk 2 ?_; refine zw (by first | rfl | simp [Region.wanted, yielded]) rfl Tryz.underlying35 rfl ?_; simp only [zn]; refine chk 1 ?_; refine wpList_nil ?_; go_upto_region 6 with fail
    refine wp_region_lit ?_; refine chq 6 ?_; repeat (first | go_big_quiet_skip | (go_big_quiet_want; first | ((first | refine zo (t := 3) rfl _ _ _ rfl (fun w hw => zq (WW (qz pc w hw) hp)) (by first | rfl | omega) ?_ | refine qB ?_ | refine qC ?_); simp only [zn]; go_big_quiet_on) | (go_big_quiet_op; go_big_quiet_on)))
    refine wpQuiet_nil ?_; refine wpList_nil ?_; go_upto_region 7 with fail
    try have lx_r2 := r2.lt
    try have lx_r3 := r3.lt
    try have lx_od := od.lt
    try have lx_pc := pc.lt
    refine zG 7 [(5, zC ?v5_5), (6, zC ?v5_6)] (by kernel_rfl) (by kernel_rfl) (by kernel_rfl) ?_
    rotate_left 2
    simp only [jm, Nat.reduceAdd]; refine crq 5 ?_
    repeat (first | go_big_quiet_skip | (go_big_quiet_want; first | ((first | refine zo (t := 45) rfl _ _ _ rfl (fun w hw => (qz pc w hw).load Tryz.isAgg45 hp) (by first | rfl | omega) ?_ | refine qB ?_ | refine qC ?_); simp only [zn]; go_big_quiet_on) | (go_big_quiet_op; go_big_quiet_on)))
    refine wpQuiet_nil ?_; refine zy (by rfl) (by first | rfl | simp [Region.wanted, yielded]) ?_ ?_
    ·intro wn za hE Kx hKx
     have zf := B.size; have zg := za.size; replace B := B.trans (za.mono B.size)
     (try replace r2 := r2.below za)
     (try replace r3 := r3.below za)
     (try replace od := od.below za)
     (try replace pc := pc.below za)
     refine zB rfl (enters_of Tryz.func64 (by kernel_rfl) rfl) (by simp only [Act.eval, z6]; rfl) ?_
     refine (WH x1 qs wn (by omega) (by omega) (by omega) HQS.out).mono ?_; rintro e wm ⟨rfl, zl⟩; refine ⟨_, rfl, ?_⟩; have hz := hKx () wm trivial zl
     dsimp only [zC] at hz
     exact hz
    rintro ⟨⟩
    dsimp only [zC]
    simp only [zn]; refine zy (by rfl) (by first | rfl | simp [Region.wanted, yielded]) ?_ ?_
    ·intro wn za hE Kx hKx
     have zf := B.size; have zg := za.size; replace B := B.trans (za.mono B.size)
     (try replace r2 := r2.below za)
     (try replace r3 := r3.below za)
     (try replace od := od.below za)
     (try replace pc := pc.below za)
     refine zB rfl (enters_of Tryz.func63 (by kernel_rfl) rfl) (by simp only [Act.eval, z6]; rfl) ?_
     refine (WF A qs A2 wn HA2.out).mono ?_; rintro e wm ⟨rfl, zl⟩; refine ⟨_, rfl, ?_⟩; have hz := hKx () wm trivial zl
     dsimp only [zC] at hz
     exact hz
    rintro ⟨⟩
    dsimp only [zC]
    simp only [zn]; refine zW ?_; intro wn za hE; have zf := B.size; have zg := za.size; replace B := B.trans (za.mono B.size)
    (try replace r2 := r2.below za)
    (try replace r3 := r3.below za)
    (try replace od := od.below za)
    (try replace pc := pc.below za)
    clear hE; try simp only [List.drop_succ_cons, List.drop_zero]
    clear pc; go_wp2_with (first | (refine zr (t := 38) rfl _ _ rfl _ rfl _ rfl r3 (by kernel_rfl) rfl (by simp [rcA, dbE, Value.oneCell']) (stK B (by omega) ?_); clear r3 B; intro wn r3 ze zf zg B; replace od := od.chg ze (by omega); (try replace r2 := r2.of_eq (ze.block _ r2.lt (by omega))); simp only [zn]) | fail)
    refine zK.normal ?_; replace r3 : AtB 38 _ b_r3 (rcA A2) := r3; go_upto_region 5 with fail
    refine wp_region_lit ?_; refine chk 3 ?_; refine wpList_nil ?_; go_wp2; go_roundw
    case rel => exact ⟨k + 1, A2, by omega, by go_num, HST, B, by omega, r2, r3, od⟩
    case measure => simp [intOf]; omega
   ·have q3 : decide (0 < x1.r) = false := decide_eq_false hr
    rw [if_neg hr] at HST; go_upto_region 4 with fail
    refine wp_region_lit ?_; refine chk 2 ?_; refine zw (by first | rfl | simp [Region.wanted, yielded]) rfl Tryz.underlying35 rfl ?_; simp only [zn]; refine chk 1 ?_; refine wpList_nil ?_; go_upto_region 6 with fail
    refine wp_region_lit ?_; refine chq 6 ?_; repeat (first | go_big_quiet_skip | (go_big_quiet_want; first | ((first | refine zo (t := 3) rfl _ _ _ rfl (fun w hw => zq (WW (qz pc w hw) hp)) (by first | rfl | omega) ?_ | refine qB ?_ | refine qC ?_); simp only [zn]; go_big_quiet_on) | (go_big_quiet_op; go_big_quiet_on)))
    refine wpQuiet_nil ?_; refine wpList_nil ?_; go_upto_region 5 with fail
    refine wp_region_lit ?_; refine chk 3 ?_; refine wpList_nil ?_; go_wp2; go_roundw
    case rel => exact ⟨k + 1, A, by omega, by go_num, HST, B, k4, r2, r3, od⟩
    case measure => simp [intOf]; omega
  ·have q1 : decide ((k : Int) < (L.length : Int)) = false := decide_eq_false (by omega)
   have q2 : decide (k < L.length) = false := decide_eq_false hkl; have HF := Lib.hid (show xB A ui = q from by rw [← HE.out, ← HA.out, List.take_of_length_le (by omega)]); go_upto_region 4 with fail
   refine wp_region_lit ?_; refine chk 2 ?_; refine zw (by first | rfl | simp [Region.wanted, yielded]) rfl Tryz.underlying35 rfl ?_; simp only [zn]; refine chk 1 ?_; refine wpList_nil ?_; go_upto_region 8 with fail
   try have lx_r2 := r2.lt
   try have lx_r3 := r3.lt
   refine zG 3 [(1, zC ?v6_1), (2, zC ?v6_2)] (by kernel_rfl) (by kernel_rfl) (by kernel_rfl) ?_
   rotate_left 2
   simp only [jm, Nat.reduceAdd]; refine crk 1 ?_
   refine zy (by rfl) (by first | rfl | simp [Region.wanted, yielded]) ?_ ?_
   ·intro wn za hE Kx hKx
    have zf := B.size; have zg := za.size; replace B := B.trans (za.mono B.size)
    (try replace r2 := r2.below za)
    refine zB rfl (enters_of Tryz.func66 (by kernel_rfl) rfl) (by simp only [Act.eval, z6]; rfl) ?_
    refine (WG wn).mono ?_; rintro e wm ⟨rfl, zl⟩; refine ⟨_, rfl, ?_⟩; have hz := hKx () wm trivial zl
    dsimp only [zC] at hz
    exact hz
   rintro ⟨⟩
   dsimp only [zC]
   simp only [zn]; refine zy (by rfl) (by first | rfl | simp [Region.wanted, yielded]) ?_ ?_
   ·intro wn za hE Kx hKx
    have zf := B.size; have zg := za.size; replace B := B.trans (za.mono B.size)
    (try replace r2 := r2.below za)
    refine zB rfl (enters_of Tryz.func65 (by kernel_rfl) rfl) (by simp only [Act.eval, z6]; rfl) ?_
    refine (WC A ui q wn HF.out).mono ?_; rintro e wm ⟨rfl, zl⟩; refine ⟨_, rfl, ?_⟩; have hz := hKx () wm trivial zl
    dsimp only [zC] at hz
    exact hz
   rintro ⟨⟩
   dsimp only [zC]
   simp only [zn]; refine zW ?_; intro wn za hE; have zf := B.size; have zg := za.size; replace B := B.trans (za.mono B.size)
   (try replace r2 := r2.below za)
   clear hE; try simp only [List.drop_succ_cons, List.drop_zero]
   go_wp2_with (first | (refine zr (t := 38) rfl _ _ rfl _ rfl _ rfl r2 (by kernel_rfl) rfl (by simp [rcA, dbE, Value.oneCell']) (stK B (by omega) ?_); clear r2 B; intro wn r2 ze zf zg B; simp only [zn]) | fail)
   refine zK.normal ?_; first | (refine bodyPost_ret (zv (t := 38) rfl _ _ (b_r2) rfl r2 Tryz.isAgg38 (by kernel_rfl)) rfl ?_) | (go_step; refine bodyPost_ret (zv (t := 38) rfl _ _ (b_r2) rfl r2 Tryz.isAgg38 (by kernel_rfl)) rfl ?_) | (go_step; go_step; refine bodyPost_ret (zv (t := 38) rfl _ _ (b_r2) rfl r2 Tryz.isAgg38 (by kernel_rfl)) rfl ?_) | (go_step; go_step; go_step; refine bodyPost_ret (zv (t := 38) rfl _ _ (b_r2) rfl r2 Tryz.isAgg38 (by kernel_rfl)) rfl ?_) | (go_step; go_step; go_step; go_step; refine bodyPost_ret (zv (t := 38) rfl _ _ (b_r2) rfl r2 Tryz.isAgg38 (by kernel_rfl)) rfl ?_) | (go_step; go_step; go_step; go_step; go_step; refine bodyPost_ret (zv (t := 38) rfl _ _ (b_r2) rfl r2 Tryz.isAgg38 (by kernel_rfl)) rfl ?_)
   exact ⟨rfl, B⟩
/- Contracts of Clone at points; of Split of package stroke. -/
set_option maxHeartbeats 1000000 in
theorem Jw (v : Value) (l : List Sp) (w : World) (h : RSE spE v l w) (hn : l.length ≤ 100000) : Calls Tryz.prog 69 #[v] w fun e w' => ∃ a c, e = .returned (.slice a l.length c) ∧ qn spE w.heap.size (.slice a l.length c) l w' ∧ Below w.heap.size w w' := by
 have B := Below.refl w.heap.size w
 have q26 : ∀ (w : World) (a : Option Addr) (n c n' c' : Nat), (binOp .eql 26 (.slice a n c) (.slice none n' c')).run Tryz.prog w = .ok (.bool a.isNone) w := fun w a n c n' c' => Lib.run_eql_slice_nil w _ _ a n c n' c' Tryz.underlying26
 obtain ⟨a, c, rfl, hc⟩ := h.len
 have HS := Lib.hid h
 cases a with
 | none =>
  have hl0 : l = [] := by
   rcases h with ⟨_, h⟩ | ⟨g, o, c', e, _⟩ | ⟨_, _, e, h⟩
   ·exact h
   ·injection e with e1; cases e1
   ·exact h
  subst hl0; clear h HS; go_enter Tryz.func69, Tryz.ntmps69
  go_wp2; go_ret; exact ⟨_, _, rfl, qn.nil _ _, B⟩
 | some ad =>
  go_enter Tryz.func69, Tryz.ntmps69
  go_wp2_with (first | (at_builtin; refine j0 rfl _ _ rfl _ _ rfl rfl od (h) (by simp only [List.length_append, List.length_cons, List.length_nil]; omega) (by omega) ?_; intro v_od wn ht za; have zf := B.size; have hbz := za.size; replace B := B.trans (za.mono (by omega)); clear od; have od := ht; clear ht; obtain ⟨a_od, c_od, hv, hco⟩ := od.len; (try simp only [List.length_append, List.length_cons, List.length_nil, Nat.zero_add] at hv hco); subst hv; simp only [zn]) | (refine ZU rfl rfl (alK B ?_); clear B; intro b_od wn zb zd od za zf zk B; replace h := h.below (za.mono (by omega)); simp only [zn]) | fail)
  go_ret; exact ⟨_, _, rfl, by rw [List.nil_append] at od; exact od.mono (by omega), B⟩
/-- Two blocks and a slot for results. -/
theorem qX {t u : TypeId} {fn : Func} {p r q : Tmp} (h : fn.results = #[.cell p t, .cell r u, .tmp q]) (tmps : Array Value) (w : World) (b c : Nat) (hp : tmps.getD p undef = .pointer (some ⟨b, 0, none⟩)) (hr : tmps.getD r undef = .pointer (some ⟨c, 0, none⟩)) {cs ds : Array Value} (v : Value) (hq : tmps.getD q undef = v) (ht : AtB t w b cs) (hu : AtB u w c ds) (hagg : ∀ w : World, (isAgg t).run Tryz.prog w = .ok true w) (zf : (Tryz.prog.info? t).map (·.size) = some cs.size) (hagg2 : ∀ w : World, (isAgg u).run Tryz.prog w = .ok true w) (hsz2 : (Tryz.prog.info? u).map (·.size) = some ds.size) :
  (results fn tmps).run Tryz.prog w = .ok (.tuple #[.agg cs, .agg ds, v]) w := by
 have hl := zx ht hagg zf
 have hl2 := zx hu hagg2 hsz2
 simp only [Instr.loadAt, Instr.sureAddr, Sem.run_bind, Sem.run_pure, Result.andThen_ok] at hl hl2
 unfold results
 rw [h]
 have hp' : tmps[p]?.getD undef = .pointer (some ⟨b, 0, none⟩) := by simpa using hp
 have hr' : tmps[r]?.getD undef = .pointer (some ⟨c, 0, none⟩) := by simpa using hr
 have hq' : tmps[q]?.getD undef = v := by simpa using hq
 simp [hp', hr', hq', Instr.sureAddr, asAddr, hl, hl2, Sem.run_bind, Sem.run_pure, Result.andThen_ok]
theorem zI.taken {α : Type} {k : Nat} {T ST : TypeId} {E : Elt α k T ST} {g o : Nat} {ls : List α} {w : World} (h : zI E g o ls w) {n c : Nat} (hn : n ≤ ls.length) (hc : n ≤ c) : RSE E (.slice (some ⟨g, o, none⟩) n c) (ls.take n) w :=
 .inr (.inl ⟨g, o, c, by rw [List.length_take, Nat.min_eq_left hn], by rw [List.length_take]; omega, fun _ => h.take n⟩)
theorem zI.dropped {α : Type} {k : Nat} {T ST : TypeId} {E : Elt α k T ST} {g o : Nat} {ls : List α} {w : World} (h : zI E g o ls w) {n m c : Nat} (hm : m = ls.length - n) (hc : m ≤ c) : RSE E (.slice (some ⟨g, o + n * k, none⟩) m c) (ls.drop n) w :=
 .inr (.inl ⟨g, o + n * k, c, by rw [List.length_drop, hm], by rw [List.length_drop]; omega, fun _ => h.drop n⟩)
theorem qO {c : Prop} [Decidable c] {p q : Prop} (h : c) (hp : p) : if c then p else q := by rw [if_pos h]; exact hp
theorem AtB.drewN {t : TypeId} {w : World} {b : Nat} {cs : Array Value} (h : AtB t w b cs) : AtB t w.drew b cs := h
section
variable {o : Oper} {a : Act} {w : World} {Q : Exit → Act → World → Prop} {K : Act → World → Prop}
theorem jI {t : TypeId} {cs : Array Value} (x : Operand) (b : Nat) (ho : o.op = .load t x) (hx : a.eval x = .pointer (some ⟨b, 0, none⟩)) (ht : AtB t w b cs) (hagg : ∀ w : World, (isAgg t).run Tryz.prog w = .ok true w) (zf : (Tryz.prog.info? t).map (·.size) = some cs.size)
  (h : K (a.put o.dst (.agg cs)) w) : o.wp Tryz.prog a w K Q := by
 unfold Oper.wp execOp
 simp only [ho, hx, zx ht hagg zf, Sem.run_bind, Sem.run_pure, Result.andThen_ok]
 exact h
theorem vx (v : Value) (hrun : (execOp a.eval o).run Tryz.prog w = .ok (.value v) w) (h : K (a.put o.dst v) w) : o.wp Tryz.prog a w K Q := by
 unfold Oper.wp
 rw [hrun]
 exact h
end
set_option maxHeartbeats 8000000 in
/-- Split, done. -/
theorem X5 (v : Value) (s : Stk) (k : Nat) (w : World) (rs : RSE spE v s.pts w) (hv : jj s = true) (h1 : 1 ≤ k) (h2 : k + 2 ≤ s.pts.length) : Calls Tryz.prog 26 #[.agg (stC v s), .int .i64 (k : Int)] w fun e w' => ∃ va vb, e = .returned (.tuple #[.agg (stC va (spA s k)), .agg (stC vb (spB s k)), .int .i64 0]) ∧ qn spE w.heap.size va (spA s k).pts w' ∧ qn spE w.heap.size vb (spB s k).pts w' ∧ Below w.heap.size w w' := by
 have B := Below.refl w.heap.size w
 obtain ⟨a, c, rfl, hc⟩ := rs.len
 have HV := Lib.hid hv
 have HVS := Lib.hid ((jq s).1 hv)
 have hl2 := HVS.out.l2
 have hn : s.pts.length ≤ 17592186044416 := by omega
 obtain ⟨g, o, rfl, pc0⟩ := rs.at (by omega)
 have HPC := Lib.hid pc0
 have hg := pc0.lt
 have q1 : decide ((k : Int) < 1) = false := decide_eq_false (by omega)
 have q2 : decide ((s.pts.length : Int) - 2 < (k : Int)) = false := decide_eq_false (by omega)
 clear hv pc0
 go_enter Tryz.func26, Tryz.ntmps26
 go_upto_region 0 with fail
 refine wp_region_lit ?_
 (refine zt (t := 30) rfl _ rfl _ rfl (alK B ?_); clear B; intro b_r2 wn zb zd r2 za zf zk B; (try have zh := rs.lt); (try replace rs := rs.below (za.mono zb)); simp only [zn])
 (refine zu (t := 30) rfl _ (zY _ _ rfl) (alK B ?_); clear B; intro b_r4 wn zb zd r4 za zf zk B; (try have zh := r2.lt); (try replace r2 := r2.below (za.mono zb)); (try have zh := rs.lt); (try replace rs := rs.below (za.mono zb)); simp only [zn])
 (refine zu (t := 30) rfl _ (zY _ _ rfl) (alK B ?_); clear B; intro b_r5 wn zb zd r5 za zf zk B; (try have zh := r2.lt); (try replace r2 := r2.below (za.mono zb)); (try have zh := r4.lt); (try replace r4 := r4.below (za.mono zb)); (try have zh := rs.lt); (try replace rs := rs.below (za.mono zb)); simp only [zn])
 refine chk 1 ?_
 refine wpList_nil ?_
 have k1 : w.heap.size ≤ b_r2 := by omega
 have k2 : b_r2 < b_r4 := by have := r2.lt; omega
 have k3 : b_r4 < b_r5 := by have := r4.lt; omega
 go_upto_region 1 with fail
 refine wp_region_lit ?_
 refine chk 1 ?_
 refine clF (enters_of Tryz.func16 (by kernel_rfl) rfl) (c := jx _ s true _ rs hn HV.out) (h := ?_)
 rintro e wn ⟨rfl, za⟩
 have zf := B.size
 have zg := za.size
 replace B := B.trans (za.mono B.size)
 (try replace r2 := r2.below za)
 (try replace r4 := r4.below za)
 (try replace r5 := r5.below za)
 refine ⟨_, rfl, ?_⟩
 simp only [zn]
 refine chk 9 ?_
 refine zw (by first | rfl | simp [Region.wanted, yielded]) rfl Tryz.underlying26 rfl ?_
 simp only [zn]
 refine chk 3 ?_
 refine wpList_nil ?_
 go_upto_region 3 with fail
 go_cut [7, 8] from 24 to 28 (fun s7 s8 wx => ∃ b_r7 b_r8, s7 = .pointer (some ⟨b_r7, 0, none⟩) ∧ s8 = .pointer (some ⟨b_r8, 0, none⟩) ∧ Below w.heap.size w wx ∧ b_r5 < b_r7 ∧ b_r5 < b_r8 ∧ b_r7 ≠ b_r8 ∧ AtB 30 wx b_r2 (stC (.slice (some ⟨g, o, none⟩) s.pts.length c) s) ∧ AtB 30 wx b_r4 #[.slice none 0 0, .int .i64 0, .int .i64 0, .int .u8 0, .int .u8 0, .int .u8 0, .int .u8 0, .bool false, .int .i64 0] ∧ AtB 30 wx b_r5 #[.slice none 0 0, .int .i64 0, .int .i64 0, .int .u8 0, .int .u8 0, .int .u8 0, .int .u8 0, .bool false, .int .i64 0] ∧ AtB 30 wx b_r7 (stC (.slice (some ⟨g, o, none⟩) s.pts.length c) s) ∧ AtB 30 wx b_r8 (stC (.slice (some ⟨g, o, none⟩) s.pts.length c) s))
 case first =>
  have hr5 := r5.lt; have r2B := r2; clear rs; refine kz 6 #[false, false, false, false, false, false] (by kernel_rfl) (by kernel_rfl) ?_; intro wn za; have hX := za; have zf := B.size; have zg := za.size; replace B := B.trans (za.mono B.size); try replace r2 := r2.below za
  try replace r4 := r4.below za
  try replace r5 := r5.below za
  simp only [List.length_cons, List.length_nil, Nat.reduceAdd]; refine qD 0 rfl (by kernel_rfl) ⟨_, zN hX⟩ ?_; intro K hK; try simp only [zR]
  (first | (refine zo (t := 30) rfl _ _ _ rfl (fun w hw => zx (zH r2B w hw) Tryz.isAgg30 (by kernel_rfl)) (by rfl) ?_; simp only [zn]; go_big_quiet_on) | (go_big_quiet_op; go_big_quiet_on))
  simp only [zn]; refine qD 1 rfl (by kernel_rfl) ⟨_, zN hX⟩ ?_; intro K hK; try simp only [zR]
  (first | (refine zo (t := 30) rfl _ _ _ rfl (fun w hw => zx (zH r2B w hw) Tryz.isAgg30 (by kernel_rfl)) (by rfl) ?_; simp only [zn]; go_big_quiet_on) | (go_big_quiet_op; go_big_quiet_on))
  simp only [zn]; refine xg 2 3 rfl rfl (by kernel_rfl) rfl rfl (fun K hK => ?_) (fun K hK => ?_)
  ·skip
   refine zM (t := 30) _ (zY _ _ rfl) ?_; intro b_r7 wn zb zd ht za zg; have zf := B.size; have hsx := hX.size; replace B := B.trans (za.mono (by omega)); replace hX := hX.trans (za.mono (by omega)); try replace r2 := r2.below (za.mono zb)
   try replace r4 := r4.below (za.mono zb)
   try replace r5 := r5.below (za.mono zb)
   try replace r7 := r7.below (za.mono zb)
   try replace r8 := r8.below (za.mono zb)
   have r7 := ht; clear ht; refine hK _ _ ⟨fun _ => ⟨_, zN hX⟩, ?_⟩; clear hK K; simp only [zn]; refine qf 3 rfl (by kernel_rfl) rfl (fun K hK => ?_); refine zM (t := 30) _ (zY _ _ rfl) ?_; intro b_r8 wn zb zd ht za zg; have zf := B.size; have hsx := hX.size; replace B := B.trans (za.mono (by omega)); replace hX := hX.trans (za.mono (by omega)); try replace r2 := r2.below (za.mono zb)
   try replace r4 := r4.below (za.mono zb)
   try replace r5 := r5.below (za.mono zb)
   try replace r7 := r7.below (za.mono zb)
   try replace r8 := r8.below (za.mono zb)
   have r8 := ht; clear ht; refine hK _ _ ⟨fun _ => ⟨_, zN hX⟩, ?_⟩; clear hK K; simp only [zn]; refine qf 4 rfl (by kernel_rfl) rfl (fun K hK => ?_); refine qE (t := 30) _ _ _ _ rfl rfl rfl r7 (by kernel_rfl) rfl (by simp [stC, Value.oneCell']) ?_; clear r7; intro wn r7 ze zg; have zf := B.size; have hsx := hX.size; replace zg := Nat.le_of_eq zg.symm; replace B := Chg.below B ze (by omega) B.size; replace hX := Chg.below hX ze (by omega) hX.size; replace r2 := r2.of_eq (ze.block _ r2.lt (by omega)); replace r4 := r4.of_eq (ze.block _ r4.lt (by omega)); replace r5 := r5.of_eq (ze.block _ r5.lt (by omega)); replace r8 := r8.of_eq (ze.block _ r8.lt (by omega)); refine hK _ _ ⟨fun _ => ⟨_, zN hX⟩, ?_⟩; clear hK K; simp only [zn]
   refine qf 5 rfl (by kernel_rfl) rfl (fun K hK => ?_); refine qE (t := 30) _ _ _ _ rfl rfl rfl r8 (by kernel_rfl) rfl (by simp [stC, Value.oneCell']) ?_; clear r8; intro wn r8 ze zg; have zf := B.size; have hsx := hX.size; replace zg := Nat.le_of_eq zg.symm; replace B := Chg.below B ze (by omega) B.size; replace hX := Chg.below hX ze (by omega) hX.size; replace r2 := r2.of_eq (ze.block _ r2.lt (by omega)); replace r4 := r4.of_eq (ze.block _ r4.lt (by omega)); replace r5 := r5.of_eq (ze.block _ r5.lt (by omega)); replace r7 := r7.of_eq (ze.block _ r7.lt (by omega)); refine hK _ _ ⟨fun _ => ⟨_, zN hX⟩, ?_⟩; clear hK K; simp only [zn]; refine qU (by kernel_rfl) (by kernel_rfl) ?_; simp only [List.drop_succ_cons, List.drop_zero]; refine wpList_nil ?_; refine zK.normal ?_; go_wp2_with fail
   go_meet; exact ⟨b_r7, b_r8, rfl, rfl, B, by omega, by omega, by omega, r2, r4, r5, r7, r8⟩
  ·skip
   refine zM (t := 30) _ (zY _ _ rfl) ?_; intro b_r8 wn zb zd ht za zg; have zf := B.size; have hsx := hX.size; replace B := B.trans (za.mono (by omega)); replace hX := hX.trans (za.mono (by omega)); try replace r2 := r2.below (za.mono zb)
   try replace r4 := r4.below (za.mono zb)
   try replace r5 := r5.below (za.mono zb)
   try replace r7 := r7.below (za.mono zb)
   try replace r8 := r8.below (za.mono zb)
   have r8 := ht; clear ht; refine hK _ _ ⟨fun _ => ⟨_, zN hX⟩, ?_⟩; clear hK K; simp only [zn]; refine qf 2 rfl (by kernel_rfl) rfl (fun K hK => ?_); refine zM (t := 30) _ (zY _ _ rfl) ?_; intro b_r7 wn zb zd ht za zg; have zf := B.size; have hsx := hX.size; replace B := B.trans (za.mono (by omega)); replace hX := hX.trans (za.mono (by omega)); try replace r2 := r2.below (za.mono zb)
   try replace r4 := r4.below (za.mono zb)
   try replace r5 := r5.below (za.mono zb)
   try replace r7 := r7.below (za.mono zb)
   try replace r8 := r8.below (za.mono zb)
   have r7 := ht; clear ht; refine hK _ _ ⟨fun _ => ⟨_, zN hX⟩, ?_⟩; clear hK K; simp only [zn]; refine qf 4 rfl (by kernel_rfl) rfl (fun K hK => ?_); refine qE (t := 30) _ _ _ _ rfl rfl rfl r7 (by kernel_rfl) rfl (by simp [stC, Value.oneCell']) ?_; clear r7; intro wn r7 ze zg; have zf := B.size; have hsx := hX.size; replace zg := Nat.le_of_eq zg.symm; replace B := Chg.below B ze (by omega) B.size; replace hX := Chg.below hX ze (by omega) hX.size; replace r2 := r2.of_eq (ze.block _ r2.lt (by omega)); replace r4 := r4.of_eq (ze.block _ r4.lt (by omega)); replace r5 := r5.of_eq (ze.block _ r5.lt (by omega)); replace r8 := r8.of_eq (ze.block _ r8.lt (by omega)); refine hK _ _ ⟨fun _ => ⟨_, zN hX⟩, ?_⟩; clear hK K; simp only [zn]
   refine qf 5 rfl (by kernel_rfl) rfl (fun K hK => ?_); refine qE (t := 30) _ _ _ _ rfl rfl rfl r8 (by kernel_rfl) rfl (by simp [stC, Value.oneCell']) ?_; clear r8; intro wn r8 ze zg; have zf := B.size; have hsx := hX.size; replace zg := Nat.le_of_eq zg.symm; replace B := Chg.below B ze (by omega) B.size; replace hX := Chg.below hX ze (by omega) hX.size; replace r2 := r2.of_eq (ze.block _ r2.lt (by omega)); replace r4 := r4.of_eq (ze.block _ r4.lt (by omega)); replace r5 := r5.of_eq (ze.block _ r5.lt (by omega)); replace r7 := r7.of_eq (ze.block _ r7.lt (by omega)); refine hK _ _ ⟨fun _ => ⟨_, zN hX⟩, ?_⟩; clear hK K; simp only [zn]; refine qU (by kernel_rfl) (by kernel_rfl) ?_; simp only [List.drop_succ_cons, List.drop_zero]; refine wpList_nil ?_; refine zK.normal ?_; go_wp2_with fail
   go_meet; exact ⟨b_r7, b_r8, rfl, rfl, B, by omega, by omega, by omega, r2, r4, r5, r7, r8⟩
 case rest =>
 clear B r2 r4 r5
 obtain ⟨b_r7, b_r8, rfl, rfl, B, k4, k5, k6, r2, r4, r5, r7, r8⟩ := hcut
 have pc := HPC.out.of_eq (B.block _ HPC.out.lt)
 have r7l := r7.lt
 have r8l := r8.lt
 clear rs
 obtain ⟨PA, hPA⟩ : ∃ l, s.pts.take (k + 1) = l := ⟨_, rfl⟩
 obtain ⟨PB, hPB⟩ : ∃ l, s.pts.drop k = l := ⟨_, rfl⟩
 have HLA := Lib.hid (show PA.length = k + 1 from by rw [← hPA, List.length_take]; omega)
 have HLB := Lib.hid (show PB.length = s.pts.length - k from by rw [← hPB, List.length_drop])
 have HPA := Lib.hid hPA
 have HPB := Lib.hid hPB
 have HOKA := Lib.hid (show ∀ a ∈ PA, okS a from fun a ha => HVS.out.ok a (by rw [← hPA] at ha; exact List.mem_of_mem_take ha))
 obtain ⟨t, ht⟩ : ∃ t, jY PA = t := ⟨_, rfl⟩
 have HT := Lib.hid ht
 have htb : 0 ≤ t ∧ t ≤ 189812544 := by
  have h3 := HVS.out.pre (show k < s.pts.length by omega); have h4 := zbe (s := s) (at_ := k) (by omega); rw [hPA, ht] at h4; omega
 have HPH := Lib.hid (show zaE s k = if s.pha - t < 0 then s.pha - t + (s.spa - 1 - (s.pha - t)) / s.spa * s.spa else s.pha - t from by unfold zaE; rw [hPA, ht])
 have RA := Lib.hid (show ∀ W, zI spE g o s.pts W → RSE spE (.slice (some ⟨g, o, none⟩) (k + 1) c) PA W from fun W h => by rw [← hPA]; exact h.taken (by omega) (by omega))
 have RB := Lib.hid (show ∀ W, zI spE g o s.pts W → RSE spE (.slice (some ⟨g, o + k * 3, none⟩) (s.pts.length - k) (c - k)) PB W from fun W h => by rw [← hPB]; exact h.dropped rfl (by omega))
 have hs1 := HVS.out.s1
 have hs2 := HVS.out.s2
 have hq1 := HVS.out.p1
 have hq2 := HVS.out.p2
 have hkc : ¬ c = k := by omega
 have u1 : decide (k ≤ c) = true := decide_eq_true (by omega)
 have u2 : decide (k + 1 ≤ c) = true := decide_eq_true (by omega)
 have u3 : decide (k ≤ s.pts.length) = true := decide_eq_true (by omega)
 clear hPA hPB ht
 obtain ⟨b0, hb0⟩ : ∃ b, b = wc.heap.size := ⟨_, rfl⟩
 have hb7 : b_r7 < b0 := by omega
 have hb8 : b_r8 < b0 := by omega
 have HB0 := Lib.hid hb0
 clear hb0
 go_upto_region 4 with fail
 refine wp_region_lit ?_
 refine chk 5 ?_
 refine clF (enters_of Tryz.func69 (by kernel_rfl) rfl) (c := Jw _ PA _ (RA.out _ pc) (by have := HLA.out; omega)) (h := ?_)
 rintro e wn ⟨a4, c4, rfl, o7, za⟩
 have zf := B.size
 have zg := za.size
 replace B := B.trans (za.mono B.size)
 (try replace r2 := r2.below za)
 (try replace r4 := r4.below za)
 (try replace r5 := r5.below za)
 (try replace r7 := r7.below za)
 (try replace r8 := r8.below za)
 (try replace pc := pc.below za)
 replace o7 := o7.mono (show b0 ≤ _ from by have := HB0.out; omega)
 refine ⟨_, rfl, ?_⟩
 simp only [zn]
 refine chk 1 ?_
 (refine xp (t := 30) rfl _ _ rfl _ 0 rfl _ _ _ rfl r7 rfl (stK B (by omega) ?_); clear r7 B; intro wn r7 ze zf zg B; replace o7 := o7.chg ze (by omega); (try replace r2 := r2.of_eq (ze.block _ r2.lt (by omega))); (try replace r4 := r4.of_eq (ze.block _ r4.lt (by omega))); (try replace r5 := r5.of_eq (ze.block _ r5.lt (by omega))); (try replace r8 := r8.of_eq (ze.block _ r8.lt (by omega))); (try replace pc := pc.of_eq (ze.block _ pc.lt (by omega))); simp only [zn])
 refine wpList_nil ?_
 replace r7 : AtB 30 _ b_r7 (stC (.slice a4 PA.length c4) s) := r7
 go_upto_region 5 with fail
 refine wp_region_lit ?_
 refine chk 4 ?_
 refine clF (enters_of Tryz.func69 (by kernel_rfl) rfl) (c := Jw _ PB _ (RB.out _ pc) (by have := HLB.out; omega)) (h := ?_)
 rintro e wn ⟨a5, c5, rfl, o8, za⟩
 have zf := B.size
 have zg := za.size
 replace B := B.trans (za.mono B.size)
 (try replace r2 := r2.below za)
 (try replace r4 := r4.below za)
 (try replace r5 := r5.below za)
 (try replace r7 := r7.below za)
 (try replace r8 := r8.below za)
 (try replace pc := pc.below za)
 (try replace o7 := o7.below za)
 replace o8 := o8.mono (show b0 ≤ _ from by have := HB0.out; omega)
 refine ⟨_, rfl, ?_⟩
 simp only [zn]
 refine chk 1 ?_
 (refine xp (t := 30) rfl _ _ rfl _ 0 rfl _ _ _ rfl r8 rfl (stK B (by omega) ?_); clear r8 B; intro wn r8 ze zf zg B; replace o7 := o7.chg ze (by omega); replace o8 := o8.chg ze (by omega); (try replace r2 := r2.of_eq (ze.block _ r2.lt (by omega))); (try replace r4 := r4.of_eq (ze.block _ r4.lt (by omega))); (try replace r5 := r5.of_eq (ze.block _ r5.lt (by omega))); (try replace r7 := r7.of_eq (ze.block _ r7.lt (by omega))); (try replace pc := pc.of_eq (ze.block _ pc.lt (by omega))); simp only [zn])
 refine wpList_nil ?_
 replace r8 : AtB 30 _ b_r8 (stC (.slice a5 PB.length c5) s) := r8
 clear pc
 go_upto_region 6 with fail
 have rs7 := o7.rs
 try have lx_r2 := r2.lt
 try have lx_r4 := r4.lt
 try have lx_r5 := r5.lt
 try have lx_r7 := r7.lt
 try have lx_r8 := r8.lt
 try have lx_o7 := o7.lt
 try have lx_o8 := o8.lt
 try have lx_rs7 := rs7.lt
 refine zG 7 [(4, zC ?v1_4)] (by kernel_rfl) (by kernel_rfl) (by kernel_rfl) ?_
 rotate_left 1
 simp only [jm, Nat.reduceAdd]
 refine crk 4 ?_
 refine zy (by rfl) (by first | rfl | simp [Region.wanted, yielded]) ?_ ?_
 ·intro wn za hE Kx hKx
  have zf := B.size; have zg := za.size; replace B := B.trans (za.mono B.size)
  (try replace r2 := r2.below za)
  (try replace r4 := r4.below za)
  (try replace r5 := r5.below za)
  (try replace r7 := r7.below za)
  (try replace r8 := r8.below za)
  (try replace o7 := o7.below za)
  (try replace o8 := o8.below za)
  (try replace rs7 := rs7.below za)
  refine zB rfl (enters_of Tryz.func54 (by kernel_rfl) rfl) (by simp only [Act.eval, z6]; rfl) ?_
  refine (YX _ PA t wn rs7 (by have := HLA.out; omega) HOKA.out HT.out).mono ?_
  rintro e wm ⟨rfl, zl⟩; refine ⟨_, rfl, ?_⟩; have hz := hKx () wm trivial zl
  dsimp only [zC] at hz
  exact hz
 rintro ⟨⟩
 dsimp only [zC]
 simp only [zn]
 refine crk 2 ?_
 refine zW ?_
 intro wn za hE
 have zf := B.size
 have zg := za.size
 replace B := B.trans (za.mono B.size)
 (try replace r2 := r2.below za)
 (try replace r4 := r4.below za)
 (try replace r5 := r5.below za)
 (try replace r7 := r7.below za)
 (try replace r8 := r8.below za)
 (try replace o7 := o7.below za)
 (try replace o8 := o8.below za)
 (try replace rs7 := rs7.below za)
 clear hE
 try simp only [List.drop_succ_cons, List.drop_zero]
 go_wp2_with (first | (refine js (t := 30) rfl _ _ rfl _ 8 rfl _ rfl r8 rfl (stK B (by omega) ?_); clear r8 B; intro wn r8 ze zf zg B; replace o7 := o7.chg ze (by omega); replace o8 := o8.chg ze (by omega); (try replace r2 := r2.of_eq (ze.block _ r2.lt (by omega))); (try replace r4 := r4.of_eq (ze.block _ r4.lt (by omega))); (try replace r5 := r5.of_eq (ze.block _ r5.lt (by omega))); (try replace r7 := r7.of_eq (ze.block _ r7.lt (by omega))); simp only [zn]) | fail)
 refine zK.normal ?_
 replace r8 : AtB 30 _ b_r8 (stC (.slice a5 PB.length c5) ⟨s.pts, s.rad, s.spa, s.col, s.era, s.pha - t⟩) := r8
 clear rs7
 have hbw : w.heap.size ≤ b0 := by omega
 go_upto_region 7 with fail
 by_cases hneg : s.pha - t < 0
 ·have q3 : decide (s.pha - t < 0) = true := decide_eq_true hneg
  have hnn : 0 ≤ s.spa - 1 - (s.pha - t) := by omega
  have hdb : 0 ≤ (s.spa - 1 - (s.pha - t)) / s.spa := Int.ediv_nonneg hnn (by omega); have hdb2 : (s.spa - 1 - (s.pha - t)) / s.spa ≤ s.spa - 1 - (s.pha - t) := Int.ediv_le_self _ hnn; have hmb := jo (a := (s.spa - 1 - (s.pha - t)) / s.spa) (b := s.spa) (m := 200000000) (k := 4096) hdb (by omega) (by omega) hs2; have e0 : s.spa ≠ 0 := by omega
  have e00 : (s.spa == 0) = false := by simp; omega
  obtain ⟨ph, hph⟩ : ∃ p, s.pha - t + (s.spa - 1 - (s.pha - t)) / s.spa * s.spa = p := ⟨_, rfl⟩; have HPHV := Lib.hid hph; have HPV := Lib.hid (show zaE s k = ph from by rw [HPH.out, if_pos hneg, hph]); clear hph; refine wp_region_lit ?_; refine chk 3 ?_
  refine wpList_nil ?_; go_upto_region 8 with fail
  try have lx_r2 := r2.lt
  try have lx_r4 := r4.lt
  try have lx_r5 := r5.lt
  try have lx_r7 := r7.lt
  try have lx_r8 := r8.lt
  try have lx_o7 := o7.lt
  try have lx_o8 := o8.lt
  refine zG 16 [] (by kernel_rfl) (by kernel_rfl) (by kernel_rfl) ?_
  rotate_left 0
  simp only [jm, Nat.reduceAdd]; refine crk 16 ?_
  refine zW ?_; intro wn za hE; have zf := B.size; have zg := za.size; replace B := B.trans (za.mono B.size)
  (try replace r2 := r2.below za)
  (try replace r4 := r4.below za)
  (try replace r5 := r5.below za)
  (try replace r7 := r7.below za)
  (try replace r8 := r8.below za)
  (try replace o7 := o7.below za)
  (try replace o8 := o8.below za)
  clear hE; try simp only [List.drop_succ_cons, List.drop_zero]
  go_wp2_with (first | (refine js (t := 30) rfl _ _ rfl _ 8 rfl _ rfl r8 rfl (stK B (by omega) ?_); clear r8 B; intro wn r8 ze zf zg B; replace o7 := o7.chg ze (by omega); replace o8 := o8.chg ze (by omega); (try replace r2 := r2.of_eq (ze.block _ r2.lt (by omega))); (try replace r4 := r4.of_eq (ze.block _ r4.lt (by omega))); (try replace r5 := r5.of_eq (ze.block _ r5.lt (by omega))); (try replace r7 := r7.of_eq (ze.block _ r7.lt (by omega))); simp only [zn]) | fail)
  refine zK.normal ?_; replace r8 : AtB 30 _ b_r8 (stC (.slice a5 PB.length c5) ⟨s.pts, s.rad, s.spa, s.col, s.era, s.pha - t + (s.spa - 1 - (s.pha - t)) / s.spa * s.spa⟩) := r8; rw [HPHV.out] at r8; go_upto_region 9 with fail
  go_cut [6] from 9 to 67 (fun s6 wx => s6 = .int .i64 0 ∧ Below w.heap.size w wx ∧ qn spE b0 (.slice a4 PA.length c4) PA wx ∧ qn spE b0 (.slice a5 PB.length c5) PB wx ∧ AtB 30 wx b_r4 (stC (.slice a4 PA.length c4) s) ∧ AtB 30 wx b_r5 (stC (.slice a5 PB.length c5) ⟨s.pts, s.rad, s.spa, s.col, s.era, ph⟩))
  case first =>
   refine wp_region_any (by kernel_rfl) ?_; change wpAny _ _ _ _ _ _ _ (World.drew _)
   replace B := B.drew; replace r2 := AtB.drewN r2; replace r4 := AtB.drewN r4; replace r5 := AtB.drewN r5; replace r7 := AtB.drewN r7; replace r8 := AtB.drewN r8; replace o7 := o7.below ((Below.refl _ _).drew); replace o8 := o8.below ((Below.refl _ _).drew)
   generalize wn.drew = w7 at *
   refine wpAny_ready (rs := [0, 1]) (by kernel_rfl) (by simp) ?_; refine AllReady.cons rfl (fun K hK => qO rfl ?_) ?_
   ·simp only [zR]
    refine jI (t := 30) _ _ rfl rfl r7 Tryz.isAgg30 (by kernel_rfl) ?_; refine hK _ _ ?_; simp only [zn]; clear hK K; refine wpAny_ready (rs := [1, 2]) (by kernel_rfl) (by simp) ?_; refine AllReady.cons rfl (fun K hK => qO rfl ?_) ?_
    ·simp only [zR]
     refine jI (t := 30) _ _ rfl rfl r8 Tryz.isAgg30 (by kernel_rfl) ?_; refine hK _ _ ?_; simp only [zn]; clear hK K; refine wpAny_ready (rs := [2]) (by kernel_rfl) (by simp) ?_; refine AllReady.cons rfl (fun K hK => qO rfl ?_) ?_
     ·simp only [zR]
      refine qE (t := 30) _ _ _ _ rfl rfl rfl r4 (by kernel_rfl) rfl (by simp [stC, Value.oneCell']) ?_; clear r4; intro wn r4 ze zg; have zf := B.size; replace zg := Nat.le_of_eq zg.symm; replace B := Chg.below B ze (by omega) B.size; replace o7 := o7.chg ze (by omega); replace o8 := o8.chg ze (by omega); replace r2 := r2.of_eq (ze.block _ r2.lt (by omega)); replace r5 := r5.of_eq (ze.block _ r5.lt (by omega)); replace r7 := r7.of_eq (ze.block _ r7.lt (by omega)); replace r8 := r8.of_eq (ze.block _ r8.lt (by omega)); refine hK _ _ ?_; simp only [zn]; clear hK K; refine wpAny_ready (rs := [3]) (by kernel_rfl) (by simp) ?_; refine AllReady.cons rfl (fun K hK => qO rfl ?_) ?_
      ·simp only [zR]
       refine qE (t := 30) _ _ _ _ rfl rfl rfl r5 (by kernel_rfl) rfl (by simp [stC, Value.oneCell']) ?_; clear r5; intro wn r5 ze zg; have zf := B.size; replace zg := Nat.le_of_eq zg.symm; replace B := Chg.below B ze (by omega) B.size; replace o7 := o7.chg ze (by omega); replace o8 := o8.chg ze (by omega); replace r2 := r2.of_eq (ze.block _ r2.lt (by omega)); replace r4 := r4.of_eq (ze.block _ r4.lt (by omega)); replace r7 := r7.of_eq (ze.block _ r7.lt (by omega)); replace r8 := r8.of_eq (ze.block _ r8.lt (by omega)); refine hK _ _ ?_; simp only [zn]; clear hK K; refine wpAny_ready (rs := [4]) (by kernel_rfl) (by simp) ?_; refine AllReady.cons rfl (fun K hK => qO rfl ?_) ?_
       ·simp only [zR]
        refine vx (_) (by rfl) ?_; refine hK _ _ ?_; simp only [zn]; clear hK K; refine wpAny_done (by kernel_rfl) ?_ _; go_wp2_with fail
        go_meet; exact ⟨rfl, B, o7, o8, r4, r5⟩
       exact AllReady.nil
      exact AllReady.nil
     exact AllReady.nil
    refine AllReady.cons rfl (fun K hK => qO rfl ?_) ?_
    ·simp only [zR]
     refine qE (t := 30) _ _ _ _ rfl rfl rfl r4 (by kernel_rfl) rfl (by simp [stC, Value.oneCell']) ?_; clear r4; intro wn r4 ze zg; have zf := B.size; replace zg := Nat.le_of_eq zg.symm; replace B := Chg.below B ze (by omega) B.size; replace o7 := o7.chg ze (by omega); replace o8 := o8.chg ze (by omega); replace r2 := r2.of_eq (ze.block _ r2.lt (by omega)); replace r5 := r5.of_eq (ze.block _ r5.lt (by omega)); replace r7 := r7.of_eq (ze.block _ r7.lt (by omega)); replace r8 := r8.of_eq (ze.block _ r8.lt (by omega)); refine hK _ _ ?_; simp only [zn]; clear hK K; refine wpAny_ready (rs := [1]) (by kernel_rfl) (by simp) ?_; refine AllReady.cons rfl (fun K hK => qO rfl ?_) ?_
     ·simp only [zR]
      refine jI (t := 30) _ _ rfl rfl r8 Tryz.isAgg30 (by kernel_rfl) ?_; refine hK _ _ ?_; simp only [zn]; clear hK K; refine wpAny_ready (rs := [3]) (by kernel_rfl) (by simp) ?_; refine AllReady.cons rfl (fun K hK => qO rfl ?_) ?_
      ·simp only [zR]
       refine qE (t := 30) _ _ _ _ rfl rfl rfl r5 (by kernel_rfl) rfl (by simp [stC, Value.oneCell']) ?_; clear r5; intro wn r5 ze zg; have zf := B.size; replace zg := Nat.le_of_eq zg.symm; replace B := Chg.below B ze (by omega) B.size; replace o7 := o7.chg ze (by omega); replace o8 := o8.chg ze (by omega); replace r2 := r2.of_eq (ze.block _ r2.lt (by omega)); replace r4 := r4.of_eq (ze.block _ r4.lt (by omega)); replace r7 := r7.of_eq (ze.block _ r7.lt (by omega)); replace r8 := r8.of_eq (ze.block _ r8.lt (by omega)); refine hK _ _ ?_; simp only [zn]; clear hK K; refine wpAny_ready (rs := [4]) (by kernel_rfl) (by simp) ?_; refine AllReady.cons rfl (fun K hK => qO rfl ?_) ?_
       ·simp only [zR]
        refine vx (_) (by rfl) ?_; refine hK _ _ ?_; simp only [zn]; clear hK K; refine wpAny_done (by kernel_rfl) ?_ _; go_wp2_with fail
        go_meet; exact ⟨rfl, B, o7, o8, r4, r5⟩
       exact AllReady.nil
      exact AllReady.nil
     exact AllReady.nil
    exact AllReady.nil
   refine AllReady.cons rfl (fun K hK => qO rfl ?_) ?_
   ·simp only [zR]
    refine jI (t := 30) _ _ rfl rfl r8 Tryz.isAgg30 (by kernel_rfl) ?_; refine hK _ _ ?_; simp only [zn]; clear hK K; refine wpAny_ready (rs := [0]) (by kernel_rfl) (by simp) ?_; refine AllReady.cons rfl (fun K hK => qO rfl ?_) ?_
    ·simp only [zR]
     refine jI (t := 30) _ _ rfl rfl r7 Tryz.isAgg30 (by kernel_rfl) ?_; refine hK _ _ ?_; simp only [zn]; clear hK K; refine wpAny_ready (rs := [2]) (by kernel_rfl) (by simp) ?_; refine AllReady.cons rfl (fun K hK => qO rfl ?_) ?_
     ·simp only [zR]
      refine qE (t := 30) _ _ _ _ rfl rfl rfl r4 (by kernel_rfl) rfl (by simp [stC, Value.oneCell']) ?_; clear r4; intro wn r4 ze zg; have zf := B.size; replace zg := Nat.le_of_eq zg.symm; replace B := Chg.below B ze (by omega) B.size; replace o7 := o7.chg ze (by omega); replace o8 := o8.chg ze (by omega); replace r2 := r2.of_eq (ze.block _ r2.lt (by omega)); replace r5 := r5.of_eq (ze.block _ r5.lt (by omega)); replace r7 := r7.of_eq (ze.block _ r7.lt (by omega)); replace r8 := r8.of_eq (ze.block _ r8.lt (by omega)); refine hK _ _ ?_; simp only [zn]; clear hK K; refine wpAny_ready (rs := [3]) (by kernel_rfl) (by simp) ?_; refine AllReady.cons rfl (fun K hK => qO rfl ?_) ?_
      ·simp only [zR]
       refine qE (t := 30) _ _ _ _ rfl rfl rfl r5 (by kernel_rfl) rfl (by simp [stC, Value.oneCell']) ?_; clear r5; intro wn r5 ze zg; have zf := B.size; replace zg := Nat.le_of_eq zg.symm; replace B := Chg.below B ze (by omega) B.size; replace o7 := o7.chg ze (by omega); replace o8 := o8.chg ze (by omega); replace r2 := r2.of_eq (ze.block _ r2.lt (by omega)); replace r4 := r4.of_eq (ze.block _ r4.lt (by omega)); replace r7 := r7.of_eq (ze.block _ r7.lt (by omega)); replace r8 := r8.of_eq (ze.block _ r8.lt (by omega)); refine hK _ _ ?_; simp only [zn]; clear hK K; refine wpAny_ready (rs := [4]) (by kernel_rfl) (by simp) ?_; refine AllReady.cons rfl (fun K hK => qO rfl ?_) ?_
       ·simp only [zR]
        refine vx (_) (by rfl) ?_; refine hK _ _ ?_; simp only [zn]; clear hK K; refine wpAny_done (by kernel_rfl) ?_ _; go_wp2_with fail
        go_meet; exact ⟨rfl, B, o7, o8, r4, r5⟩
       exact AllReady.nil
      exact AllReady.nil
     exact AllReady.nil
    exact AllReady.nil
   exact AllReady.nil
  case rest =>
  clear B o7 o8 r4 r5; obtain ⟨rfl, B, o7, o8, r4, r5⟩ := hcut; first | (refine bodyPost_ret (qX (t := 30) (u := 30) rfl _ _ b_r4 b_r5 rfl rfl _ rfl r4 r5 Tryz.isAgg30 (by kernel_rfl) Tryz.isAgg30 (by kernel_rfl)) rfl ?_) | (go_step; refine bodyPost_ret (qX (t := 30) (u := 30) rfl _ _ b_r4 b_r5 rfl rfl _ rfl r4 r5 Tryz.isAgg30 (by kernel_rfl) Tryz.isAgg30 (by kernel_rfl)) rfl ?_) | (go_step; go_step; refine bodyPost_ret (qX (t := 30) (u := 30) rfl _ _ b_r4 b_r5 rfl rfl _ rfl r4 r5 Tryz.isAgg30 (by kernel_rfl) Tryz.isAgg30 (by kernel_rfl)) rfl ?_) | (go_step; go_step; go_step; refine bodyPost_ret (qX (t := 30) (u := 30) rfl _ _ b_r4 b_r5 rfl rfl _ rfl r4 r5 Tryz.isAgg30 (by kernel_rfl) Tryz.isAgg30 (by kernel_rfl)) rfl ?_) | (go_step; go_step; go_step; go_step; refine bodyPost_ret (qX (t := 30) (u := 30) rfl _ _ b_r4 b_r5 rfl rfl _ rfl r4 r5 Tryz.isAgg30 (by kernel_rfl) Tryz.isAgg30 (by kernel_rfl)) rfl ?_) | (go_step; go_step; go_step; go_step; go_step; refine bodyPost_ret (qX (t := 30) (u := 30) rfl _ _ b_r4 b_r5 rfl rfl _ rfl r4 r5 Tryz.isAgg30 (by kernel_rfl) Tryz.isAgg30 (by kernel_rfl)) rfl ?_)
  have e4 : stC (.slice a4 PA.length c4) s = stC (.slice a4 PA.length c4) (spA s k) := rfl; have e5 : stC (.slice a5 PB.length c5) ⟨s.pts, s.rad, s.spa, s.col, s.era, ph⟩ = stC (.slice a5 PB.length c5) (spB s k) := by rw [← HPV.out]; rfl
  rw [e4, e5]; exact ⟨_, _, rfl, by show qn spE _ _ (s.pts.take (k + 1)) _; rw [HPA.out]; exact o7.mono (by have := HB0.out; omega), by show qn spE _ _ (s.pts.drop k) _; rw [HPB.out]; exact o8.mono (by have := HB0.out; omega), B⟩
 ·have q3 : decide (s.pha - t < 0) = false := decide_eq_false hneg
  obtain ⟨ph, hph⟩ : ∃ p, s.pha - t = p := ⟨_, rfl⟩; have HPV := Lib.hid (show zaE s k = ph from by rw [HPH.out, if_neg hneg, hph]); have HPHV := Lib.hid hph; clear hph; refine wp_region_lit ?_; refine chk 3 ?_
  refine wpList_nil ?_; rw [HPHV.out] at r8; go_upto_region 9 with fail
  go_cut [6] from 9 to 67 (fun s6 wx => s6 = .int .i64 0 ∧ Below w.heap.size w wx ∧ qn spE b0 (.slice a4 PA.length c4) PA wx ∧ qn spE b0 (.slice a5 PB.length c5) PB wx ∧ AtB 30 wx b_r4 (stC (.slice a4 PA.length c4) s) ∧ AtB 30 wx b_r5 (stC (.slice a5 PB.length c5) ⟨s.pts, s.rad, s.spa, s.col, s.era, ph⟩))
  case first =>
   refine wp_region_any (by kernel_rfl) ?_; change wpAny _ _ _ _ _ _ _ (World.drew _)
   replace B := B.drew; replace r2 := AtB.drewN r2; replace r4 := AtB.drewN r4; replace r5 := AtB.drewN r5; replace r7 := AtB.drewN r7; replace r8 := AtB.drewN r8; replace o7 := o7.below ((Below.refl _ _).drew); replace o8 := o8.below ((Below.refl _ _).drew)
   generalize wn.drew = w7 at *
   refine wpAny_ready (rs := [0, 1]) (by kernel_rfl) (by simp) ?_; refine AllReady.cons rfl (fun K hK => qO rfl ?_) ?_
   ·simp only [zR]
    refine jI (t := 30) _ _ rfl rfl r7 Tryz.isAgg30 (by kernel_rfl) ?_; refine hK _ _ ?_; simp only [zn]; clear hK K; refine wpAny_ready (rs := [1, 2]) (by kernel_rfl) (by simp) ?_; refine AllReady.cons rfl (fun K hK => qO rfl ?_) ?_
    ·simp only [zR]
     refine jI (t := 30) _ _ rfl rfl r8 Tryz.isAgg30 (by kernel_rfl) ?_; refine hK _ _ ?_; simp only [zn]; clear hK K; refine wpAny_ready (rs := [2]) (by kernel_rfl) (by simp) ?_; refine AllReady.cons rfl (fun K hK => qO rfl ?_) ?_
     ·simp only [zR]
      refine qE (t := 30) _ _ _ _ rfl rfl rfl r4 (by kernel_rfl) rfl (by simp [stC, Value.oneCell']) ?_; clear r4; intro wn r4 ze zg; have zf := B.size; replace zg := Nat.le_of_eq zg.symm; replace B := Chg.below B ze (by omega) B.size; replace o7 := o7.chg ze (by omega); replace o8 := o8.chg ze (by omega); replace r2 := r2.of_eq (ze.block _ r2.lt (by omega)); replace r5 := r5.of_eq (ze.block _ r5.lt (by omega)); replace r7 := r7.of_eq (ze.block _ r7.lt (by omega)); replace r8 := r8.of_eq (ze.block _ r8.lt (by omega)); refine hK _ _ ?_; simp only [zn]; clear hK K; refine wpAny_ready (rs := [3]) (by kernel_rfl) (by simp) ?_; refine AllReady.cons rfl (fun K hK => qO rfl ?_) ?_
      ·simp only [zR]
       refine qE (t := 30) _ _ _ _ rfl rfl rfl r5 (by kernel_rfl) rfl (by simp [stC, Value.oneCell']) ?_; clear r5; intro wn r5 ze zg; have zf := B.size; replace zg := Nat.le_of_eq zg.symm; replace B := Chg.below B ze (by omega) B.size; replace o7 := o7.chg ze (by omega); replace o8 := o8.chg ze (by omega); replace r2 := r2.of_eq (ze.block _ r2.lt (by omega)); replace r4 := r4.of_eq (ze.block _ r4.lt (by omega)); replace r7 := r7.of_eq (ze.block _ r7.lt (by omega)); replace r8 := r8.of_eq (ze.block _ r8.lt (by omega)); refine hK _ _ ?_; simp only [zn]; clear hK K; refine wpAny_ready (rs := [4]) (by kernel_rfl) (by simp) ?_; refine AllReady.cons rfl (fun K hK => qO rfl ?_) ?_
       ·simp only [zR]
        refine vx (_) (by rfl) ?_; refine hK _ _ ?_; simp only [zn]; clear hK K; refine wpAny_done (by kernel_rfl) ?_ _; go_wp2_with fail
        go_meet; exact ⟨rfl, B, o7, o8, r4, r5⟩
       exact AllReady.nil
      exact AllReady.nil
     exact AllReady.nil
    refine AllReady.cons rfl (fun K hK => qO rfl ?_) ?_
    ·simp only [zR]
     refine qE (t := 30) _ _ _ _ rfl rfl rfl r4 (by kernel_rfl) rfl (by simp [stC, Value.oneCell']) ?_; clear r4; intro wn r4 ze zg; have zf := B.size; replace zg := Nat.le_of_eq zg.symm; replace B := Chg.below B ze (by omega) B.size; replace o7 := o7.chg ze (by omega); replace o8 := o8.chg ze (by omega); replace r2 := r2.of_eq (ze.block _ r2.lt (by omega)); replace r5 := r5.of_eq (ze.block _ r5.lt (by omega)); replace r7 := r7.of_eq (ze.block _ r7.lt (by omega)); replace r8 := r8.of_eq (ze.block _ r8.lt (by omega)); refine hK _ _ ?_; simp only [zn]; clear hK K; refine wpAny_ready (rs := [1]) (by kernel_rfl) (by simp) ?_; refine AllReady.cons rfl (fun K hK => qO rfl ?_) ?_
     ·simp only [zR]
      refine jI (t := 30) _ _ rfl rfl r8 Tryz.isAgg30 (by kernel_rfl) ?_; refine hK _ _ ?_; simp only [zn]; clear hK K; refine wpAny_ready (rs := [3]) (by kernel_rfl) (by simp) ?_; refine AllReady.cons rfl (fun K hK => qO rfl ?_) ?_
      ·simp only [zR]
       refine qE (t := 30) _ _ _ _ rfl rfl rfl r5 (by kernel_rfl) rfl (by simp [stC, Value.oneCell']) ?_; clear r5; intro wn r5 ze zg; have zf := B.size; replace zg := Nat.le_of_eq zg.symm; replace B := Chg.below B ze (by omega) B.size; replace o7 := o7.chg ze (by omega); replace o8 := o8.chg ze (by omega); replace r2 := r2.of_eq (ze.block _ r2.lt (by omega)); replace r4 := r4.of_eq (ze.block _ r4.lt (by omega)); replace r7 := r7.of_eq (ze.block _ r7.lt (by omega)); replace r8 := r8.of_eq (ze.block _ r8.lt (by omega)); refine hK _ _ ?_; simp only [zn]; clear hK K; refine wpAny_ready (rs := [4]) (by kernel_rfl) (by simp) ?_; refine AllReady.cons rfl (fun K hK => qO rfl ?_) ?_
       ·simp only [zR]
        refine vx (_) (by rfl) ?_; refine hK _ _ ?_; simp only [zn]; clear hK K; refine wpAny_done (by kernel_rfl) ?_ _; go_wp2_with fail
        go_meet; exact ⟨rfl, B, o7, o8, r4, r5⟩
       exact AllReady.nil
      exact AllReady.nil
     exact AllReady.nil
    exact AllReady.nil
   refine AllReady.cons rfl (fun K hK => qO rfl ?_) ?_
   ·simp only [zR]
    refine jI (t := 30) _ _ rfl rfl r8 Tryz.isAgg30 (by kernel_rfl) ?_; refine hK _ _ ?_; simp only [zn]; clear hK K; refine wpAny_ready (rs := [0]) (by kernel_rfl) (by simp) ?_; refine AllReady.cons rfl (fun K hK => qO rfl ?_) ?_
    ·simp only [zR]
     refine jI (t := 30) _ _ rfl rfl r7 Tryz.isAgg30 (by kernel_rfl) ?_; refine hK _ _ ?_; simp only [zn]; clear hK K; refine wpAny_ready (rs := [2]) (by kernel_rfl) (by simp) ?_; refine AllReady.cons rfl (fun K hK => qO rfl ?_) ?_
     ·simp only [zR]
      refine qE (t := 30) _ _ _ _ rfl rfl rfl r4 (by kernel_rfl) rfl (by simp [stC, Value.oneCell']) ?_; clear r4; intro wn r4 ze zg; have zf := B.size; replace zg := Nat.le_of_eq zg.symm; replace B := Chg.below B ze (by omega) B.size; replace o7 := o7.chg ze (by omega); replace o8 := o8.chg ze (by omega); replace r2 := r2.of_eq (ze.block _ r2.lt (by omega)); replace r5 := r5.of_eq (ze.block _ r5.lt (by omega)); replace r7 := r7.of_eq (ze.block _ r7.lt (by omega)); replace r8 := r8.of_eq (ze.block _ r8.lt (by omega)); refine hK _ _ ?_; simp only [zn]; clear hK K; refine wpAny_ready (rs := [3]) (by kernel_rfl) (by simp) ?_; refine AllReady.cons rfl (fun K hK => qO rfl ?_) ?_
      ·simp only [zR]
       refine qE (t := 30) _ _ _ _ rfl rfl rfl r5 (by kernel_rfl) rfl (by simp [stC, Value.oneCell']) ?_; clear r5; intro wn r5 ze zg; have zf := B.size; replace zg := Nat.le_of_eq zg.symm; replace B := Chg.below B ze (by omega) B.size; replace o7 := o7.chg ze (by omega); replace o8 := o8.chg ze (by omega); replace r2 := r2.of_eq (ze.block _ r2.lt (by omega)); replace r4 := r4.of_eq (ze.block _ r4.lt (by omega)); replace r7 := r7.of_eq (ze.block _ r7.lt (by omega)); replace r8 := r8.of_eq (ze.block _ r8.lt (by omega)); refine hK _ _ ?_; simp only [zn]; clear hK K; refine wpAny_ready (rs := [4]) (by kernel_rfl) (by simp) ?_; refine AllReady.cons rfl (fun K hK => qO rfl ?_) ?_
       ·simp only [zR]
        refine vx (_) (by rfl) ?_; refine hK _ _ ?_; simp only [zn]; clear hK K; refine wpAny_done (by kernel_rfl) ?_ _; go_wp2_with fail
        go_meet; exact ⟨rfl, B, o7, o8, r4, r5⟩
       exact AllReady.nil
      exact AllReady.nil
     exact AllReady.nil
    exact AllReady.nil
   exact AllReady.nil
  case rest =>
  clear B o7 o8 r4 r5; obtain ⟨rfl, B, o7, o8, r4, r5⟩ := hcut; first | (refine bodyPost_ret (qX (t := 30) (u := 30) rfl _ _ b_r4 b_r5 rfl rfl _ rfl r4 r5 Tryz.isAgg30 (by kernel_rfl) Tryz.isAgg30 (by kernel_rfl)) rfl ?_) | (go_step; refine bodyPost_ret (qX (t := 30) (u := 30) rfl _ _ b_r4 b_r5 rfl rfl _ rfl r4 r5 Tryz.isAgg30 (by kernel_rfl) Tryz.isAgg30 (by kernel_rfl)) rfl ?_) | (go_step; go_step; refine bodyPost_ret (qX (t := 30) (u := 30) rfl _ _ b_r4 b_r5 rfl rfl _ rfl r4 r5 Tryz.isAgg30 (by kernel_rfl) Tryz.isAgg30 (by kernel_rfl)) rfl ?_) | (go_step; go_step; go_step; refine bodyPost_ret (qX (t := 30) (u := 30) rfl _ _ b_r4 b_r5 rfl rfl _ rfl r4 r5 Tryz.isAgg30 (by kernel_rfl) Tryz.isAgg30 (by kernel_rfl)) rfl ?_) | (go_step; go_step; go_step; go_step; refine bodyPost_ret (qX (t := 30) (u := 30) rfl _ _ b_r4 b_r5 rfl rfl _ rfl r4 r5 Tryz.isAgg30 (by kernel_rfl) Tryz.isAgg30 (by kernel_rfl)) rfl ?_) | (go_step; go_step; go_step; go_step; go_step; refine bodyPost_ret (qX (t := 30) (u := 30) rfl _ _ b_r4 b_r5 rfl rfl _ rfl r4 r5 Tryz.isAgg30 (by kernel_rfl) Tryz.isAgg30 (by kernel_rfl)) rfl ?_)
  have e4 : stC (.slice a4 PA.length c4) s = stC (.slice a4 PA.length c4) (spA s k) := rfl; have e5 : stC (.slice a5 PB.length c5) ⟨s.pts, s.rad, s.spa, s.col, s.era, ph⟩ = stC (.slice a5 PB.length c5) (spB s k) := by rw [← HPV.out]; rfl
  rw [e4, e5]; exact ⟨_, _, rfl, by show qn spE _ _ (s.pts.take (k + 1)) _; rw [HPA.out]; exact o7.mono (by have := HB0.out; omega), by show qn spE _ _ (s.pts.drop k) _; rw [HPB.out]; exact o8.mono (by have := HB0.out; omega), B⟩
end Go.Proofs.YtepelndbbhdofaaGreatDoor
/- Contract of Read of package stroke. -/
namespace Go.Proofs.YtepelndbbhdofaaGreatDoor
open Go.RowKit Sha Pl
set_option linter.unusedVariables false
set_option linter.unusedSimpArgs false
set_option maxRecDepth 20000
/-! ### The states of the reader -/
def rdQ (l : List UInt8) (st : Nat × Bool) : Sp × (Nat × Bool) := (⟨(beN (rdT l st 3).1 : Int) - 1048576, (beN (rdT l (rdT l st 3).2 3).1 : Int) - 1048576, (beN (rdT l (rdT l (rdT l st 3).2 3).2 1).1 : Int)⟩, (rdT l (rdT l (rdT l st 3).2 3).2 1).2)
def rdK (l : List UInt8) : Nat → List Sp × (Nat × Bool)
 | 0 => ([], (rdT l (0, false) 1).2)
 | k + 1 => ((rdK l k).1 ++ [(rdQ l (rdK l k).2).1], (rdQ l (rdK l k).2).2)
theorem KA (l : List UInt8) : ∀ k, (rdK l k).1.length = k
 | 0 => rfl
 | k + 1 => by
  show ((rdK l k).1 ++ [_]).length = _
  rw [List.length_append, KA l k]
  rfl
theorem zdj {l : List UInt8} {st : Nat × Bool} (h : (rdQ l st).2.2 = false) : st.2 = false ∧ (rdQ l st).2.1 = st.1 + 7 ∧ st.1 + 7 ≤ l.length := by
 obtain ⟨a1, a2, a3⟩ := kl (l := l) (m := 1) h
 obtain ⟨b1, b2, b3⟩ := kl a1
 obtain ⟨c1, c2, c3⟩ := kl b1
 refine ⟨c1, ?_, ?_⟩
 ·show (rdT l (rdT l (rdT l st 3).2 3).2 1).2.1 = _
  rw [a2, b2, c2]
 ·rw [b2, c2] at a3
  omega
theorem zaQ (l : List UInt8) : ∀ k, (rdK l k).2.2 = false → (rdK l k).2.1 = 1 + 7 * k ∧ 1 + 7 * k ≤ l.length
 | 0, h => by
  obtain ⟨_, a2, a3⟩ := kl (l := l) (st := (0, false)) (m := 1) h; exact ⟨by show (rdT l (0, false) 1).2.1 = _; rw [a2], by simpa using a3⟩
 | k + 1, h => by
  obtain ⟨a1, a2, a3⟩ := zdj (l := l) h; obtain ⟨b1, b2⟩ := zaQ l k a1; refine ⟨?_, ?_⟩
  ·show (rdQ l (rdK l k).2).2.1 = _
   rw [a2, b1]; omega
  ·rw [b1] at a3
   omega
theorem zdk {l : List UInt8} {st : Nat × Bool} (h : st.1 ≤ l.length) : (rdQ l st).2.1 ≤ l.length := yM (yM (yM h))
theorem zaR (l : List UInt8) : ∀ k, (rdK l k).2.1 ≤ l.length
 | 0 => yM (Nat.zero_le _)
 | k + 1 => zdk (zaR l k)
theorem zdl {l : List UInt8} {k : Nat} (h : 8 + 7 * k ≤ l.length) : rdQ l (1 + 7 * k, false) = (Yq l k, (1 + 7 * (k + 1), false)) := by
 unfold rdQ
 rw [yA (by omega)]
 simp only
 rw [yA (by omega)]
 simp only
 rw [yA (by omega)]
 simp only
 unfold Yq
 rw [show 1 + 7 * k + 3 = 4 + 7 * k by omega, show 4 + 7 * k + 3 = 7 + 7 * k by omega, show 7 + 7 * k + 1 = 1 + 7 * (k + 1) by omega]
theorem Yv (l : List UInt8) : ∀ k, 1 + 7 * k ≤ l.length → rdK l k = ((List.range k).map (Yq l), (1 + 7 * k, false))
 | 0, h => by
  show ([], (rdT l (0, false) 1).2) = _
  rw [yA (by omega)]
  rfl
 | k + 1, h => by
  show ((rdK l k).1 ++ [(rdQ l (rdK l k).2).1], (rdQ l (rdK l k).2).2) = _
  rw [Yv l k (by omega)]; simp only; rw [zdl (by omega), List.range_succ, List.map_append]
  rfl
theorem zaS (l : List UInt8) : beN (rdT l (0, false) 1).1 = vC l := by
 unfold vC
 by_cases h : 0 + 1 ≤ l.length
 ·rw [yA h]
 ·have : l = [] := List.length_eq_zero_iff.1 (by omega)
  subst this
  rfl
/-- What the reader takes behind the points. -/
structure Tl (l : List UInt8) (st : Nat × Bool) (a b c d e : List UInt8) (s1 s2 s3 s4 s5 : Nat × Bool) : Prop where
 h1 : rdT l st 2 = (a, s1)
 h2 : rdT l s1 2 = (b, s2)
 h3 : rdT l s2 4 = (c, s3)
 h4 : rdT l s3 1 = (d, s4)
 h5 : rdT l s4 3 = (e, s5)
theorem zcA (l : List UInt8) (st : Nat × Bool) : ∃ a b c d e s1 s2 s3 s4 s5, Tl l st a b c d e s1 s2 s3 s4 s5 := ⟨_, _, _, _, _, _, _, _, _, _, ⟨rfl, rfl, rfl, rfl, rfl⟩⟩
theorem Tl.bad {l : List UInt8} {k : Nat} {a b c d e : List UInt8} {s1 s2 s3 s4 s5 : Nat × Bool} (h : Tl l (rdK l k).2 a b c d e s1 s2 s3 s4 s5) (hl : l.length < 13 + 7 * k) : s5.2 = true := by
 cases hs : s5.2 with
 | true => rfl
 | false =>
  obtain ⟨a1, a2, a3⟩ := kl (l := l) (st := s4) (m := 3) (by rw [h.h5]; exact hs)
  obtain ⟨b1, b2, b3⟩ := kl (l := l) (st := s3) (m := 1) (by rw [h.h4]; exact a1)
  obtain ⟨c1, c2, c3⟩ := kl (l := l) (st := s2) (m := 4) (by rw [h.h3]; exact b1)
  obtain ⟨d1, d2, d3⟩ := kl (l := l) (st := s1) (m := 2) (by rw [h.h2]; exact c1)
  obtain ⟨e1, e2, e3⟩ := kl (l := l) (st := (rdK l k).2) (m := 2) (by rw [h.h1]; exact d1)
  rw [h.h4] at b2; rw [h.h3] at c2; rw [h.h2] at d2; rw [h.h1] at e2; have f := (zaQ l k e1).1; simp only at b2 c2 d2 e2; omega
theorem Tl.good {l : List UInt8} {k : Nat} {a b c d e : List UInt8} {s1 s2 s3 s4 s5 : Nat × Bool} (h : Tl l (rdK l k).2 a b c d e s1 s2 s3 s4 s5) (hl : 13 + 7 * k ≤ l.length) : s5.2 = false ∧ a = jO l (1 + 7 * k) 2 ∧ b = jO l (3 + 7 * k) 2 ∧ c = jO l (5 + 7 * k) 4 ∧ d = jO l (9 + 7 * k) 1 ∧ e = jO l (10 + 7 * k) 3 := by
 have h1 := h.h1
 rw [Yv l k (by omega)] at h1
 simp only at h1
 rw [yA (by omega)] at h1
 injection h1 with e1 e2
 have h2 := h.h2
 rw [← e2, yA (by omega)] at h2
 injection h2 with e3 e4
 have h3 := h.h3
 rw [← e4, yA (by omega)] at h3
 injection h3 with e5 e6
 have h4 := h.h4
 rw [← e6, yA (by omega)] at h4
 injection h4 with e7 e8
 have h5 := h.h5
 rw [← e8, yA (by omega)] at h5
 injection h5 with e9 e10
 rw [← e1, ← e3, ← e5, ← e7, ← e9, ← e10]
 refine ⟨rfl, rfl, ?_, ?_, ?_, ?_⟩ <;> (congr 1; omega)
theorem Tl.le {l : List UInt8} {st : Nat × Bool} {a b c d e : List UInt8} {s1 s2 s3 s4 s5 : Nat × Bool} (h : Tl l st a b c d e s1 s2 s3 s4 s5) (h0 : st.1 ≤ l.length) : s1.1 ≤ l.length ∧ s2.1 ≤ l.length ∧ s3.1 ≤ l.length ∧ s4.1 ≤ l.length := by
 have a1 := yM (m := 2) h0
 rw [h.h1] at a1
 have a2 := yM (m := 2) a1
 rw [h.h2] at a2
 have a3 := yM (m := 4) a2
 rw [h.h3] at a3
 have a4 := yM (m := 1) a3
 rw [h.h4] at a4
 exact ⟨a1, a2, a3, a4⟩
theorem QO {l : List UInt8} {st : Nat × Bool} {m : Nat} (hm : m ≤ 3) : beN (rdT l st m).1 < 16777216 :=
 Nat.lt_of_lt_of_le (Zf _) (by rw [show (16777216 : Nat) = 256 ^ 3 from rfl]; exact Nat.pow_le_pow_right (by omega) (Nat.le_trans uY hm))
/-- A colour stored into a stroke. -/
theorem Jr {ops : Array Oper} {rest : List Oper} {o : Oper} {a : Act} {w : World} {Q : Exit → Act → World → Prop} (hg : o.guard = none) (x y : Operand) (ho : o.op = .store 28 x y) (b : Nat) (hx : a.eval x = .pointer (some ⟨b, 3, none⟩)) (q : Px) (hy : a.eval y = .agg #[.int .u8 q.r, .int .u8 q.g, .int .u8 q.b, .int .u8 q.a]) {v : Value} {s : Stk} (ht : AtB 30 w b (stC v s))
  (h : ∀ w', AtB 30 w' b (stC v { s with col := q }) → Chg b w w' → w'.heap.size = w.heap.size → wpList Tryz.prog ops Q rest (a.put o.dst undef) w') : wpList Tryz.prog ops Q (o :: rest) a w := by
 have c3 : w.cell? ⟨b, 3, none⟩ = some (.int .u8 s.col.r) := ht.cell 3 rfl
 have c4 : w.cell? ⟨b, 4, none⟩ = some (.int .u8 s.col.g) := ht.cell 4 rfl
 have c5 : w.cell? ⟨b, 5, none⟩ = some (.int .u8 s.col.b) := ht.cell 5 rfl
 have c6 : w.cell? ⟨b, 6, none⟩ = some (.int .u8 s.col.a) := ht.cell 6 rfl
 have hf := fun j => AtB.frozen ht j
 refine z2 hg x y ho ((((w.setCell ⟨b, 3, none⟩ (.int .u8 q.r)).setCell ⟨b, 4, none⟩ (.int .u8 q.g)).setCell ⟨b, 5, none⟩ (.int .u8 q.b)).setCell ⟨b, 6, none⟩ (.int .u8 q.a)) ?_ (h _ ?_ (((((Chg.refl b w).setCell _).setCell _).setCell _).setCell _) (by simp only [World.size_setCell]))
 ·rw [hx, hy]
  simp [go_sem, c3, c4, c5, c6, hf]
 ·exact heap_setCell_same _ b 6 _ _ (.int .u8 q.a) (heap_setCell_same _ b 5 _ _ (.int .u8 q.b) (heap_setCell_same _ b 4 _ _ (.int .u8 q.g) (heap_setCell_same _ b 3 _ _ (.int .u8 q.r) ht)))
/- Contract of Read of package stroke. -/
theorem zbb (s t : ByteArray) : (s.toList == t.toList) = decide (s = t) := by
 rw [ByteArray.toList_eq, ByteArray.toList_eq]
 by_cases h : s = t
 ·rw [decide_eq_true h, h]; simp
 ·rw [decide_eq_false h, beq_eq_false_iff_ne]
  exact fun e => h (by rw [← Qj s, ← Qj t]; exact congrArg ofL e)
theorem Kr {a b : List UInt8} : ofL a = ofL b ↔ a = b := ⟨fun e => congrArg bytes e, fun e => by rw [e]⟩
theorem zaZ (A B : List UInt8) (w : World) : (binOp .neq 9 (.string (ofL A)) (.string (ofL B))).run Tryz.prog w = .ok (.bool (!decide (A = B))) w := by
 have h : decide (ofL A = ofL B) = decide (A = B) := by
  by_cases e : A = B
  ·rw [decide_eq_true e, decide_eq_true (Kr.2 e)]
  ·rw [decide_eq_false e, decide_eq_false (fun k => e (Kr.1 k))]
 simp [go_sem, zbb, h]
theorem zaY (t : TypeId) (x y : Operand) (A B : List UInt8) (w : World) : (eqGuard BinOp.neq t x y (.string (ofL A)) (.string (ofL B))).run Tryz.prog w = .ok () w := by first | rfl | simp [go_sem, eqGuard]
theorem kj {o : Oper} {a : Act} {C : World → Prop} {K : Act → Prop} {x y : Operand} (h : o.op = .binOp .neq 9 x y 9) (A B : List UInt8) (hx : a.eval x = .string (ofL A)) (hy : a.eval y = .string (ofL B)) (z : Bool) (hz : (!decide (A = B)) = z) (hk : K (a.put o.dst (.bool z))) : o.quiet Tryz.prog a C K := by
 subst hz
 exact ⟨_, fun w hw => by unfold Oper.quietAt execOp; simp only [h, hx, hy, zaY, zaZ A B w, Sem.run_bind, Sem.run_pure, Result.andThen_ok]; exact ⟨rfl, rfl⟩, hk⟩
set_option maxHeartbeats 8000000 in
theorem YP (l : List UInt8) (S : Stk) (E : Int) (w : World) (hl : l.length ≤ 100000000) (e : vH l = (S, E)) : Calls Tryz.prog 34 #[.string (ofL l)] w fun e w' => ∃ v, e = .returned (.tuple #[.agg (stC v S), .int .i64 E]) ∧ RSE spE v S.pts w' ∧ Below w.heap.size w w' := by
 have B := Below.refl w.heap.size w
 have HE := Lib.hid e
 clear e
 obtain ⟨⟨x0, i0, f0⟩, hx0⟩ : ∃ t, rdT l (0, false) 1 = t := ⟨_, rfl⟩
 have hn0 : beN x0 = vC l := by rw [← zaS, hx0]
 have h00 : rdK l 0 = ([], (i0, f0)) := by show ([], (rdT l (0, false) 1).2) = _; rw [hx0]
 have HX0 := Lib.hid hx0
 have H00 := Lib.hid h00
 clear hx0 h00
 have hpn : vC l < 256 := by have := Zf (jO l 0 1); unfold vC; exact Nat.lt_of_lt_of_le this (by rw [show (256 : Nat) = 256 ^ 1 from rfl]; exact Nat.pow_le_pow_right (by omega) (by unfold jO; rw [List.length_take]; omega))
 obtain ⟨n, hn⟩ : ∃ n, vC l = n := ⟨_, rfl⟩
 rw [hn] at hn0 hpn
 have HN := Lib.hid hn
 clear hn
 go_enter Tryz.func34, Tryz.ntmps34
 go_upto_region 0 with fail
 refine wp_region_lit ?_
 (refine zu (t := 30) rfl _ (zY _ _ rfl) (alK B ?_); clear B; intro b_r2 wn zb zd r2 za zf zk B; simp only [zn])
 refine chk 1 ?_
 refine wpList_nil ?_
 have k1 : w.heap.size ≤ b_r2 := by omega
 have hr2 := r2.lt
 go_upto_region 1 with fail
 refine wp_region_lit ?_
 refine chk 1 ?_
 refine clF (enters_of Tryz.func86 (by kernel_rfl) rfl) (c := zbq l _) (h := ?_)
 rintro e wn ⟨b_rd, hb_rd, rfl, rd, za⟩
 have zf := B.size
 have zg := za.size
 replace B := B.trans (za.mono B.size)
 (try replace r2 := r2.below za)
 refine ⟨_, rfl, ?_⟩
 simp only [zn]
 refine chk 1 ?_
 refine wpList_nil ?_
 have k2 : b_r2 < b_rd := by omega
 have hrd := rd.lt
 go_upto_region 2 with fail
 refine wp_region_lit ?_
 (refine zu (t := 30) rfl _ (zY _ _ rfl) (alK B ?_); clear B; intro b_t5 wn zb zd t5 za zf zk B; (try have zh := r2.lt); (try replace r2 := r2.below (za.mono zb)); (try have zh := rd.lt); (try replace rd := rd.below (za.mono zb)); simp only [zn])
 refine wpList_nil ?_
 have k3 : b_rd < b_t5 := by omega
 have ht5 := t5.lt
 obtain ⟨b1, hb1⟩ : ∃ n, n = wn.heap.size := ⟨_, rfl⟩
 have k4 : b_t5 < b1 := by omega
 have k5 : b1 ≤ wn.heap.size := by omega
 clear hb1 hr2 hrd ht5
 have od : qn spE b1 (.slice none 0 0) [] wn := qn.nil b1 wn
 replace t5 : AtB 30 _ b_t5 (stC (.slice none 0 0) zSt) := t5
 go_upto_region 3 with fail
 refine wp_region_lit ?_
 refine chk 1 ?_
 refine clF (enters_of Tryz.func87 (by kernel_rfl) rfl) (c := QF l 0 false b_rd x0 i0 f0 _ rd hl (Nat.zero_le _) HX0.out) (h := ?_)
 rintro e wn ⟨rfl, rd2, ze⟩
 have zf := B.size
 have zg := ze.size
 replace B := Chg.below B ze (by omega) B.size
 replace r2 := r2.of_eq (ze.block _ r2.lt (by omega))
 replace t5 := t5.of_eq (ze.block _ t5.lt (by omega))
 replace od := od.chg ze (by omega)
 clear rd
 have rd := rd2
 clear rd2
 refine ⟨_, rfl, ?_⟩
 simp only [zn]
 refine chk 1 ?_
 refine wpList_nil ?_
 rw [hn0]
 have k6 : b1 ≤ wn.heap.size := by omega
 clear k5
 go_wp2
 go_loopw [6, 7, 13] (fun _ _ iv wr => ∃ (k i : Nat) (fl : Bool) (P : List Sp) (ap : Option Addr) (cp : Nat), k ≤ n ∧ iv = .int .i64 (k : Int) ∧ Hid (rdK l k = (P, (i, fl))) ∧ Below w.heap.size w wr ∧ b1 ≤ wr.heap.size ∧ AtB 180 wr b_rd (RdC l i fl) ∧ AtB 30 wr b_r2 #[.slice none 0 0, .int .i64 0, .int .i64 0, .int .u8 0, .int .u8 0, .int .u8 0, .int .u8 0, .bool false, .int .i64 0] ∧ AtB 30 wr b_t5 (stC (.slice ap P.length cp) zSt) ∧ qn spE b1 (.slice ap P.length cp) P wr) (fun _ _ iv _ => (n - intOf iv).toNat)
 case atStart => exact ⟨0, i0, f0, [], none, 0, by omega, rfl, H00, B, k6, rd, r2, t5, od⟩
 case round =>
  clear B k6 rd r2 t5 od HX0 H00; obtain ⟨k, i, fl, P, ap, cp, hk, rfl, HK, B, k6, rd, r2, t5, od⟩ := hrel; have hPn : P.length = k := by have := KA l k; rw [HK.out] at this; exact this
  have hi := zaR l k; rw [HK.out] at hi; simp only at hi; by_cases hkn : k < n
  ·have q1 : decide ((k : Int) < (n : Int)) = true := decide_eq_true (by omega)
   have q2 : decide (k < n) = true := decide_eq_true hkn; have hst : rdK l (k + 1) = (P ++ [(rdQ l (i, fl)).1], (rdQ l (i, fl)).2) := by
    show ((rdK l k).1 ++ [(rdQ l (rdK l k).2).1], (rdQ l (rdK l k).2).2) = _
    rw [HK.out]
   unfold rdQ at hst; obtain ⟨⟨xa, ia, fa⟩, hxa⟩ : ∃ t, rdT l (i, fl) 3 = t := ⟨_, rfl⟩; have la := yM (m := 3) (st := (i, fl)) hi; have na := QO (l := l) (st := (i, fl)) (m := 3) (by omega); rw [hxa] at hst la na; simp only at hst la na; obtain ⟨⟨xb, ib, fb⟩, hxb⟩ : ∃ t, rdT l (ia, fa) 3 = t := ⟨_, rfl⟩; have lb := yM (m := 3) (st := (ia, fa)) la; have nb := QO (l := l) (st := (ia, fa)) (m := 3) (by omega); rw [hxb] at hst lb nb; simp only at hst lb nb; obtain ⟨⟨xc, ic, fc⟩, hxc⟩ : ∃ t, rdT l (ib, fb) 1 = t := ⟨_, rfl⟩; have nc := QO (l := l) (st := (ib, fb)) (m := 1) (by omega); rw [hxc] at hst nc; simp only at hst nc; have HA := Lib.hid hxa; have HB := Lib.hid hxb; have HC := Lib.hid hxc; have HST := Lib.hid hst; clear hxa hxb hxc hst HK; obtain ⟨na_, hna⟩ : ∃ n, beN xa = n := ⟨_, rfl⟩; obtain ⟨nb_, hnb⟩ : ∃ n, beN xb = n := ⟨_, rfl⟩; obtain ⟨nc_, hnc⟩ : ∃ n, beN xc = n := ⟨_, rfl⟩
   rw [hna] at na; rw [hnb] at nb; rw [hnc] at nc; rw [hna, hnb, hnc] at HST; go_upto_region 4 with fail
   refine wp_region_lit ?_; refine chk 1 ?_; refine wpList_nil ?_; go_upto_region 5 with fail
   refine wp_region_lit ?_; refine chk 1 ?_; refine clF (enters_of Tryz.func87 (by kernel_rfl) rfl) (c := QG l i fl b_rd xa ia fa _ rd hl hi HA.out) (h := ?_); rintro e wn ⟨rfl, rd2, ze⟩; have zf := B.size; have zg := ze.size; replace B := Chg.below B ze (by omega) B.size; replace r2 := r2.of_eq (ze.block _ r2.lt (by omega)); replace t5 := t5.of_eq (ze.block _ t5.lt (by omega)); replace od := od.chg ze (by omega); clear rd; have rd := rd2; clear rd2; rw [hna]; refine ⟨_, rfl, ?_⟩; simp only [zn]; refine chk 2 ?_; refine clF (enters_of Tryz.func87 (by kernel_rfl) rfl) (c := QG l ia fa b_rd xb ib fb _ rd hl la HB.out) (h := ?_); rintro e wn ⟨rfl, rd2, ze⟩; have zf := B.size; have zg := ze.size; replace B := Chg.below B ze (by omega) B.size; replace r2 := r2.of_eq (ze.block _ r2.lt (by omega)); replace t5 := t5.of_eq (ze.block _ t5.lt (by omega))
   replace od := od.chg ze (by omega); clear rd; have rd := rd2; clear rd2; rw [hnb]; refine ⟨_, rfl, ?_⟩; simp only [zn]; refine chk 2 ?_; refine clF (enters_of Tryz.func87 (by kernel_rfl) rfl) (c := QF l ib fb b_rd xc ic fc _ rd hl lb HC.out) (h := ?_); rintro e wn ⟨rfl, rd2, ze⟩; have zf := B.size; have zg := ze.size; replace B := Chg.below B ze (by omega) B.size; replace r2 := r2.of_eq (ze.block _ r2.lt (by omega)); replace t5 := t5.of_eq (ze.block _ t5.lt (by omega)); replace od := od.chg ze (by omega); clear rd; have rd := rd2; clear rd2; rw [hnc]; refine ⟨_, rfl, ?_⟩; simp only [zn]; refine chk 1 ?_; obtain ⟨wM, hwM⟩ : ∃ z, z = wn := ⟨_, rfl⟩; subst hwM; have HOD := Lib.hid od; have BM := B; have hws := BM.size; have kM : b1 ≤ wM.heap.size := by omega
   have B := Below.refl wM.heap.size wM; have hlr2 := r2.lt; have hlt5 := t5.lt; have hlrd := rd.lt; clear od
   (refine zu (t := 43) rfl _ (jl _ _ rfl) (alK B ?_); clear B; intro b_t6 wn zb zd t6 za zf zk B; (try have zh := r2.lt); (try replace r2 := r2.below (za.mono zb)); (try have zh := t5.lt); (try replace t5 := t5.below (za.mono zb)); (try have zh := rd.lt); (try replace rd := rd.below (za.mono zb)); simp only [zn])
   (refine zr (t := 43) rfl _ _ rfl _ rfl _ rfl t6 (by kernel_rfl) rfl (by simp [spE, Value.oneCell']) (stK B (by omega) ?_); clear t6 B; intro wn t6 ze zf zg B; (try replace r2 := r2.of_eq (ze.block _ r2.lt (by omega))); (try replace t5 := t5.of_eq (ze.block _ t5.lt (by omega))); (try replace rd := rd.of_eq (ze.block _ rd.lt (by omega))); simp only [zn])
   refine wpList_nil ?_; have od := HOD.out.below B; have B0 := BM.trans (B.mono hws); have k7 : b1 ≤ wn.heap.size := Nat.le_trans kM B.size; clear B; have B := B0; clear B0 BM; obtain ⟨p, hp⟩ : ∃ p : Sp, p = ⟨(na_ : Int) - 1048576, (nb_ : Int) - 1048576, (nc_ : Int)⟩ := ⟨_, rfl⟩; have t6p : AtB 43 wn b_t6 (spE.enc p) := by rw [hp]; exact t6
   rw [← hp] at HST; clear t6 hp; have t6 := t6p; clear t6p; go_upto_region 6 with fail
   refine wp_region_lit ?_; refine chk 3 ?_
   (refine vh (E := spE) rfl _ rfl (p) rfl (by omega) (alK B ?_); clear B; intro b_s1 wn zb zd s1 za zf zk B; replace od := od.below (za.mono zb); (try have zh := r2.lt); (try replace r2 := r2.below (za.mono zb)); (try have zh := t5.lt); (try replace t5 := t5.below (za.mono zb)); (try have zh := rd.lt); (try replace rd := rd.below (za.mono zb)); simp only [zn])
   (at_builtin; refine j0 rfl _ _ rfl _ _ rfl rfl od ((RSE.one s1)) (by simp only [List.length_append, List.length_cons, List.length_nil]; omega) (by omega) ?_; intro v_od wn ht za; have zf := B.size; have hbz := za.size; replace B := B.trans (za.mono (by omega)); clear od; (try replace r2 := r2.of_eq (za.block _ (by omega))); (try replace t5 := t5.of_eq (za.block _ (by omega))); (try replace rd := rd.of_eq (za.block _ (by omega))); have od := ht; clear ht; obtain ⟨a_od, c_od, hv, hco⟩ := od.len; (try simp only [List.length_append, List.length_cons, List.length_nil, Nat.zero_add] at hv hco); subst hv; simp only [zn])
   refine chk 1 ?_; refine wpList_nil ?_; go_upto_region 7 with fail
   refine wp_region_lit ?_; refine chk 2 ?_
   (refine xp (t := 30) rfl _ _ rfl _ 0 rfl _ _ _ rfl t5 rfl (stK B (by omega) ?_); clear t5 B; intro wn t5 ze zf zg B; (try replace r2 := r2.of_eq (ze.block _ r2.lt (by omega))); (try replace rd := rd.of_eq (ze.block _ rd.lt (by omega))); replace od := od.chg ze (by omega); simp only [zn])
   refine wpList_nil ?_; go_upto_region 8 with fail
   refine wp_region_lit ?_; refine chk 2 ?_; refine wpList_nil ?_; go_wp2; go_roundw
   case rel => exact ⟨k + 1, ic, fc, P ++ [p], _, _, by omega, by go_num, HST, B, by omega, rd, r2, by rw [List.length_append]; exact t5, by rw [List.length_append]; exact od⟩
   case measure => simp [intOf]; omega
  ·have q1 : decide ((k : Int) < (n : Int)) = false := decide_eq_false (by omega)
   have q2 : decide (k < n) = false := decide_eq_false hkn; have hke : k = n := by omega
   subst hke; obtain ⟨a, b, c, d, e, ⟨i1, f1⟩, ⟨i2, f2⟩, ⟨i3, f3⟩, ⟨i4, f4⟩, ⟨i5, f5⟩, TL⟩ := zcA l (i, fl); obtain ⟨m1, m2, m3, m4⟩ := TL.le hi; simp only at m1 m2 m3 m4; have HT1 := Lib.hid TL.h1; have HT2 := Lib.hid TL.h2; have HT3 := Lib.hid TL.h3; have HT4 := Lib.hid TL.h4; have HT5 := Lib.hid TL.h5; have HTL := Lib.hid (show Tl l (rdK l k).2 a b c d e (i1, f1) (i2, f2) (i3, f3) (i4, f4) (i5, f5) from by rw [HK.out]; exact TL)
   clear TL; obtain ⟨na_, hna⟩ : ∃ n, beN a = n := ⟨_, rfl⟩; obtain ⟨nb_, hnb⟩ : ∃ n, beN b = n := ⟨_, rfl⟩; obtain ⟨nd_, hnd⟩ : ∃ n, beN d = n := ⟨_, rfl⟩; obtain ⟨ne_, hne⟩ : ∃ n, beN e = n := ⟨_, rfl⟩; have qd : ((nd_ : Int) == 1) = decide (nd_ = 1) := by
    by_cases h : nd_ = 1
    ·subst h; rfl
    ·rw [decide_eq_false h, beq_eq_false_iff_ne]; omega
   go_upto_region 4 with fail
   refine wp_region_lit ?_; refine chk 1 ?_; refine wpList_nil ?_; go_upto_region 9 with fail
   refine wp_region_lit ?_; refine chk 1 ?_; refine clF (enters_of Tryz.func87 (by kernel_rfl) rfl) (c := YO l i fl b_rd a i1 f1 _ rd hl hi HT1.out) (h := ?_); rintro e wn ⟨rfl, rd2, ze⟩; have zf := B.size; have zg := ze.size; replace B := Chg.below B ze (by omega) B.size; replace r2 := r2.of_eq (ze.block _ r2.lt (by omega)); replace t5 := t5.of_eq (ze.block _ t5.lt (by omega)); replace od := od.chg ze (by omega); clear rd; have rd := rd2; clear rd2; rw [hna]; refine ⟨_, rfl, ?_⟩; simp only [zn]; refine chk 1 ?_; refine clF (enters_of Tryz.func87 (by kernel_rfl) rfl) (c := YO l i1 f1 b_rd b i2 f2 _ rd hl m1 HT2.out) (h := ?_); rintro e wn ⟨rfl, rd2, ze⟩; have zf := B.size; have zg := ze.size; replace B := Chg.below B ze (by omega) B.size; replace r2 := r2.of_eq (ze.block _ r2.lt (by omega)); replace t5 := t5.of_eq (ze.block _ t5.lt (by omega))
   replace od := od.chg ze (by omega); clear rd; have rd := rd2; clear rd2; rw [hnb]; refine ⟨_, rfl, ?_⟩; simp only [zn]; refine chk 1 ?_
   (refine js (t := 30) rfl _ _ rfl _ 1 rfl _ rfl t5 rfl (stK B (by omega) ?_); clear t5 B; intro wn t5 ze zf zg B; replace od := od.chg ze (by omega); (try replace r2 := r2.of_eq (ze.block _ r2.lt (by omega))); (try replace rd := rd.of_eq (ze.block _ rd.lt (by omega))); simp only [zn])
   refine chk 1 ?_
   (refine js (t := 30) rfl _ _ rfl _ 2 rfl _ rfl t5 rfl (stK B (by omega) ?_); clear t5 B; intro wn t5 ze zf zg B; replace od := od.chg ze (by omega); (try replace r2 := r2.of_eq (ze.block _ r2.lt (by omega))); (try replace rd := rd.of_eq (ze.block _ rd.lt (by omega))); simp only [zn])
   refine wpList_nil ?_; replace t5 : AtB 30 _ b_t5 (stC (.slice ap P.length cp) ⟨P, (na_ : Int), (nb_ : Int), Px.zero, false, 0⟩) := t5; go_upto_region 10 with fail
   refine wp_region_lit ?_; refine chk 1 ?_; refine clF (enters_of Tryz.func88 (by kernel_rfl) rfl) (c := uQ l i2 f2 b_rd 4 4 c i3 f3 _ rd hl m2 (by omega) rfl HT3.out) (h := ?_); rintro e wn ⟨rfl, rd2, ze⟩; have zf := B.size; have zg := ze.size; replace B := Chg.below B ze (by omega) B.size; replace r2 := r2.of_eq (ze.block _ r2.lt (by omega)); replace t5 := t5.of_eq (ze.block _ t5.lt (by omega)); replace od := od.chg ze (by omega); clear rd; have rd := rd2; clear rd2; refine ⟨_, rfl, ?_⟩; simp only [zn]; refine chk 1 ?_; refine wpList_nil ?_; go_upto_region 11 with fail
   refine wp_region_lit ?_; refine chk 1 ?_; refine clF (enters_of Tryz.func87 (by kernel_rfl) rfl) (c := QF l i3 f3 b_rd d i4 f4 _ rd hl m3 HT4.out) (h := ?_); rintro e wn ⟨rfl, rd2, ze⟩; have zf := B.size; have zg := ze.size; replace B := Chg.below B ze (by omega) B.size; replace r2 := r2.of_eq (ze.block _ r2.lt (by omega)); replace t5 := t5.of_eq (ze.block _ t5.lt (by omega)); replace od := od.chg ze (by omega); clear rd; have rd := rd2; clear rd2; rw [hnd]; refine ⟨_, rfl, ?_⟩; simp only [zn]; refine chk 2 ?_
   (refine vi (t := 30) rfl _ _ rfl _ 7 rfl _ rfl t5 rfl (stK B (by omega) ?_); clear t5 B; intro wn t5 ze zf zg B; replace od := od.chg ze (by omega); (try replace r2 := r2.of_eq (ze.block _ r2.lt (by omega))); (try replace rd := rd.of_eq (ze.block _ rd.lt (by omega))); simp only [zn])
   refine wpList_nil ?_; replace t5 : AtB 30 _ b_t5 (stC (.slice ap P.length cp) ⟨P, (na_ : Int), (nb_ : Int), Px.zero, decide (nd_ = 1), 0⟩) := t5; go_upto_region 12 with fail
   refine wp_region_lit ?_; refine chk 1 ?_; refine clF (enters_of Tryz.func87 (by kernel_rfl) rfl) (c := QG l i4 f4 b_rd e i5 f5 _ rd hl m4 HT5.out) (h := ?_); rintro e wn ⟨rfl, rd2, ze⟩; have zf := B.size; have zg := ze.size; replace B := Chg.below B ze (by omega) B.size; replace r2 := r2.of_eq (ze.block _ r2.lt (by omega)); replace t5 := t5.of_eq (ze.block _ t5.lt (by omega)); replace od := od.chg ze (by omega); clear rd; have rd := rd2; clear rd2; rw [hne]; refine ⟨_, rfl, ?_⟩; simp only [zn]; refine chk 1 ?_
   (refine js (t := 30) rfl _ _ rfl _ 8 rfl _ rfl t5 rfl (stK B (by omega) ?_); clear t5 B; intro wn t5 ze zf zg B; replace od := od.chg ze (by omega); (try replace r2 := r2.of_eq (ze.block _ r2.lt (by omega))); (try replace rd := rd.of_eq (ze.block _ rd.lt (by omega))); simp only [zn])
   refine wpList_nil ?_; replace t5 : AtB 30 _ b_t5 (stC (.slice ap P.length cp) ⟨P, (na_ : Int), (nb_ : Int), Px.zero, decide (nd_ = 1), (ne_ : Int)⟩) := t5; go_upto_region 13 with fail
   refine wp_region_lit ?_; refine chk 1 ?_; refine clF (enters_of Tryz.func89 (by kernel_rfl) rfl) (c := KY l i5 f5 b_rd _ rd) (h := ?_); rintro e wn ⟨rfl, za⟩; have zf := B.size; have zg := za.size; replace B := B.trans (za.mono B.size)
   (try replace r2 := r2.below za)
   (try replace t5 := t5.below za)
   (try replace od := od.below za)
   refine ⟨_, rfl, ?_⟩; simp only [zn]; refine wpList_nil ?_; by_cases hsh : l.length < 13 + 7 * k
   ·have h5 : f5 = true := HTL.out.bad hsh
    subst h5; have hS := HE.out; rw [ZF (by rw [HN.out]; exact hsh)] at hS
    injection hS with e1 e2
    subst e1 e2; clear od; go_upto_region 14 with fail
    refine wp_region_lit ?_
    (refine qe rfl (.agg #[.slice none 0 0, .int .i64 0, .int .i64 0, .int .u8 0, .int .u8 0, .int .u8 0, .int .u8 0, .bool false, .int .i64 0]) (by kernel_rfl) ?_; simp only [zn])
    (refine zr (t := 30) rfl _ _ rfl _ rfl _ rfl r2 (by kernel_rfl) rfl (by simp [stC, Value.oneCell']) (stK B (by omega) ?_); clear r2 B; intro wn r2 ze zf zg B; (try replace t5 := t5.of_eq (ze.block _ t5.lt (by omega))); simp only [zn])
    refine chk 1 ?_; refine wpList_nil ?_; first | (refine bodyPost_ret (zL (t := 30) rfl _ _ (b_r2) rfl _ rfl r2 Tryz.isAgg30 (by kernel_rfl)) rfl ?_) | (go_step; refine bodyPost_ret (zL (t := 30) rfl _ _ (b_r2) rfl _ rfl r2 Tryz.isAgg30 (by kernel_rfl)) rfl ?_) | (go_step; go_step; refine bodyPost_ret (zL (t := 30) rfl _ _ (b_r2) rfl _ rfl r2 Tryz.isAgg30 (by kernel_rfl)) rfl ?_) | (go_step; go_step; go_step; refine bodyPost_ret (zL (t := 30) rfl _ _ (b_r2) rfl _ rfl r2 Tryz.isAgg30 (by kernel_rfl)) rfl ?_) | (go_step; go_step; go_step; go_step; refine bodyPost_ret (zL (t := 30) rfl _ _ (b_r2) rfl _ rfl r2 Tryz.isAgg30 (by kernel_rfl)) rfl ?_) | (go_step; go_step; go_step; go_step; go_step; refine bodyPost_ret (zL (t := 30) rfl _ _ (b_r2) rfl _ rfl r2 Tryz.isAgg30 (by kernel_rfl)) rfl ?_) | (go_step; go_step; go_step; go_step; go_step; go_step; refine bodyPost_ret (zL (t := 30) rfl _ _ (b_r2) rfl _ rfl r2 Tryz.isAgg30 (by kernel_rfl)) rfl ?_) | (go_step; go_step; go_step; go_step; go_step; go_step; go_step; refine bodyPost_ret (zL (t := 30) rfl _ _ (b_r2) rfl _ rfl r2 Tryz.isAgg30 (by kernel_rfl)) rfl ?_)
    exact ⟨.slice none 0 0, rfl, (qn.nil (E := spE) 0 wn).rs, B⟩
   ·obtain ⟨h5, ea, eb, ec, ed, ee⟩ := HTL.out.good (by omega)
    simp only at h5; subst h5; have hcl : c.length = 4 := by rw [ec]; exact zbc (by omega)
    obtain ⟨g0, hg0⟩ : ∃ n, (c.getD 0 0).toNat = n := ⟨_, rfl⟩; obtain ⟨g1, hg1⟩ : ∃ n, (c.getD 1 0).toNat = n := ⟨_, rfl⟩; obtain ⟨g2, hg2⟩ : ∃ n, (c.getD 2 0).toNat = n := ⟨_, rfl⟩; obtain ⟨g3, hg3⟩ : ∃ n, (c.getD 3 0).toNat = n := ⟨_, rfl⟩; have hcc : ∀ j, j < 4 → c.getD j 0 = l.getD (5 + 7 * k + j) 0 := fun j hj => by
     rw [List.getD_eq_getElem?_getD, List.getD_eq_getElem?_getD, ec, KJ hj]
    have hPar : Z0 l = ⟨P, (na_ : Int), (nb_ : Int), ⟨(g0 : Int), (g1 : Int), (g2 : Int), (g3 : Int)⟩, decide (nd_ = 1), (ne_ : Int)⟩ := by
     have hk := HK.out; rw [Yv l k (by omega)] at hk
     injection hk with hP _
     unfold Z0; rw [HN.out]; unfold pkS Yp; rw [hP, ← ea, ← eb, ← ed, ← ee, hna, hnb, hnd, hne, ← hcc 1 (by omega), ← hcc 2 (by omega), ← hcc 3 (by omega), hg1, hg2, hg3]; have h0 := hcc 0 (by omega); rw [Nat.add_zero] at h0; rw [← h0, hg0]
    have okC : (⟨(g0 : Int), (g1 : Int), (g2 : Int), (g3 : Int)⟩ : Px).ok := by
     have := zcm l (5 + 7 * vC l); have e9 : (Z0 l).col = Yp l (5 + 7 * vC l) := rfl; rw [← e9, hPar] at this; exact this
    have HPAR := Lib.hid hPar; have OKC := Lib.hid okC; have HG0 := Lib.hid hg0; have HG1 := Lib.hid hg1; have HG2 := Lib.hid hg2; have HG3 := Lib.hid hg3; clear hPar okC hg0 hg1 hg2 hg3 ea eb ec ed ee hcc; have hPs : P.length ≤ 255 := by omega
    go_upto_region 15 with fail
    try have lx_r2 := r2.lt
    try have lx_t5 := t5.lt
    try have lx_od := od.lt
    refine zG 10 [] (by kernel_rfl) (by kernel_rfl) (by kernel_rfl) ?_
    rotate_left 0
    simp only [jm, Nat.reduceAdd]; refine crq 10 ?_; repeat (first | go_big_quiet_skip | (go_big_quiet_want; first | ((first | refine yo rfl c rfl _ rfl 0 g0 (by omega) (by first | rfl | omega) HG0.out ?_ | refine yo rfl c rfl _ rfl 1 g1 (by omega) (by first | rfl | omega) HG1.out ?_ | refine yo rfl c rfl _ rfl 2 g2 (by omega) (by first | rfl | omega) HG2.out ?_ | refine yo rfl c rfl _ rfl 3 g3 (by omega) (by first | rfl | omega) HG3.out ?_ | refine qB ?_ | refine qC ?_); simp only [zn]; go_big_quiet_on) | (go_big_quiet_op; go_big_quiet_on)))
    refine wpQuiet_nil ?_; refine zW ?_; intro wn za hE; have zf := B.size; have zg := za.size; replace B := B.trans (za.mono B.size)
    (try replace r2 := r2.below za)
    (try replace t5 := t5.below za)
    (try replace od := od.below za)
    clear hE; try simp only [List.drop_succ_cons, List.drop_zero]
    (refine Jr rfl _ _ rfl _ rfl ⟨(g0 : Int), (g1 : Int), (g2 : Int), (g3 : Int)⟩ rfl t5 (stK B (by omega) ?_); clear t5 B; intro wn t5 ze zf zg B; replace od := od.chg ze (by omega); (try replace r2 := r2.of_eq (ze.block _ r2.lt (by omega))); simp only [zn])
    refine wpList_nil ?_; refine zK.normal ?_; obtain ⟨s1, hs1⟩ : ∃ s : Stk, s = ⟨P, (na_ : Int), (nb_ : Int), ⟨(g0 : Int), (g1 : Int), (g2 : Int), (g3 : Int)⟩, decide (nd_ = 1), (ne_ : Int)⟩ := ⟨_, rfl⟩; replace t5 : AtB 30 wn b_t5 (stC (.slice ap P.length cp) s1) := by rw [hs1]; exact t5
    have hsp : s1.pts = P := by rw [hs1]
    have hsc : s1.col.ok := by rw [hs1]; exact OKC.out
    rw [← hs1] at HPAR; have rsP : RSE spE (.slice ap P.length cp) s1.pts wn := by rw [hsp]; exact od.rs
    have hsn : s1.pts.length ≤ 17592186044416 := by rw [hsp]; omega
    obtain ⟨Lb, hLb⟩ : ∃ b, xA s1 = b := ⟨_, rfl⟩; have HLB := Lib.hid hLb; have HSC := Lib.hid hsc; clear hs1 hLb hsc; have hpl : ¬ l.length < 13 + 7 * vC l := by rw [HN.out]; exact hsh
    by_cases heq : Lb = l
    ·have hz : (!decide (Lb = l)) = false := by rw [decide_eq_true heq]; rfl
     have hS := HE.out; rw [zcs hpl (by rw [HPAR.out, HLB.out]; exact heq), HPAR.out] at hS
     injection hS with e1 e2
     subst e1 e2; go_upto_region 16 with fail
     refine wp_region_lit ?_; refine chq 1 ?_
     repeat (first | go_big_quiet_skip | (go_big_quiet_want; first | ((first | refine kj rfl Lb l rfl rfl false hz ?_ | refine qB ?_ | refine qC ?_); simp only [zn]; go_big_quiet_on) | (go_big_quiet_op; go_big_quiet_on)))
     refine wpQuiet_nil ?_; refine clF (enters_of Tryz.func33 (by kernel_rfl) rfl) (c := u5 _ s1 Lb _ rsP hsn HSC.out HLB.out) (h := ?_); rintro e wn ⟨rfl, za⟩; have zf := B.size; have zg := za.size; replace B := B.trans (za.mono B.size)
     (try replace r2 := r2.below za)
     (try replace t5 := t5.below za)
     (try replace rsP := rsP.below za)
     (try replace od := od.below za)
     refine ⟨_, rfl, ?_⟩; simp only [zn]; refine chq 2 ?_; repeat (first | go_big_quiet_skip | (go_big_quiet_want; first | ((first | refine kj rfl Lb l rfl rfl false hz ?_ | refine qB ?_ | refine qC ?_); simp only [zn]; go_big_quiet_on) | (go_big_quiet_op; go_big_quiet_on)))
     refine wpQuiet_nil ?_; refine wpList_nil ?_; have HODP := Lib.hid od; have hlr2 := r2.lt; go_upto_region 18 with fail
     refine wp_region_lit ?_; refine chk 1 ?_
     (refine zr (t := 30) rfl _ _ rfl _ rfl _ rfl r2 (by kernel_rfl) rfl (by simp [stC, Value.oneCell']) (stK B (by omega) ?_); clear r2 B; intro wn r2 ze zf zg B; replace rsP : RSE spE (.slice ap P.length cp) s1.pts wn := (by rw [hsp]; exact (qn.chg HODP.out ze (by omega)).rs); (try replace t5 := t5.of_eq (ze.block _ t5.lt (by omega))); simp only [zn])
     refine chk 1 ?_; refine wpList_nil ?_; first | (refine bodyPost_ret (zL (t := 30) rfl _ _ (b_r2) rfl _ rfl r2 Tryz.isAgg30 (by kernel_rfl)) rfl ?_) | (go_step; refine bodyPost_ret (zL (t := 30) rfl _ _ (b_r2) rfl _ rfl r2 Tryz.isAgg30 (by kernel_rfl)) rfl ?_) | (go_step; go_step; refine bodyPost_ret (zL (t := 30) rfl _ _ (b_r2) rfl _ rfl r2 Tryz.isAgg30 (by kernel_rfl)) rfl ?_) | (go_step; go_step; go_step; refine bodyPost_ret (zL (t := 30) rfl _ _ (b_r2) rfl _ rfl r2 Tryz.isAgg30 (by kernel_rfl)) rfl ?_) | (go_step; go_step; go_step; go_step; refine bodyPost_ret (zL (t := 30) rfl _ _ (b_r2) rfl _ rfl r2 Tryz.isAgg30 (by kernel_rfl)) rfl ?_) | (go_step; go_step; go_step; go_step; go_step; refine bodyPost_ret (zL (t := 30) rfl _ _ (b_r2) rfl _ rfl r2 Tryz.isAgg30 (by kernel_rfl)) rfl ?_) | (go_step; go_step; go_step; go_step; go_step; go_step; refine bodyPost_ret (zL (t := 30) rfl _ _ (b_r2) rfl _ rfl r2 Tryz.isAgg30 (by kernel_rfl)) rfl ?_) | (go_step; go_step; go_step; go_step; go_step; go_step; go_step; refine bodyPost_ret (zL (t := 30) rfl _ _ (b_r2) rfl _ rfl r2 Tryz.isAgg30 (by kernel_rfl)) rfl ?_)
     exact ⟨_, rfl, rsP, B⟩
    ·have hz : (!decide (Lb = l)) = true := by rw [decide_eq_false heq]; rfl
     have hS := HE.out; rw [VA hpl (by rw [HPAR.out, HLB.out]; exact heq)] at hS
     injection hS with e1 e2
     subst e1 e2; go_upto_region 16 with fail
     refine wp_region_lit ?_; refine chq 1 ?_
     repeat (first | go_big_quiet_skip | (go_big_quiet_want; first | ((first | refine kj rfl Lb l rfl rfl true hz ?_ | refine qB ?_ | refine qC ?_); simp only [zn]; go_big_quiet_on) | (go_big_quiet_op; go_big_quiet_on)))
     refine wpQuiet_nil ?_; refine clF (enters_of Tryz.func33 (by kernel_rfl) rfl) (c := u5 _ s1 Lb _ rsP hsn HSC.out HLB.out) (h := ?_); rintro e wn ⟨rfl, za⟩; have zf := B.size; have zg := za.size; replace B := B.trans (za.mono B.size)
     (try replace r2 := r2.below za)
     refine ⟨_, rfl, ?_⟩; simp only [zn]; refine chq 2 ?_; repeat (first | go_big_quiet_skip | (go_big_quiet_want; first | ((first | refine kj rfl Lb l rfl rfl true hz ?_ | refine qB ?_ | refine qC ?_); simp only [zn]; go_big_quiet_on) | (go_big_quiet_op; go_big_quiet_on)))
     refine wpQuiet_nil ?_; refine wpList_nil ?_; go_upto_region 17 with fail
     refine wp_region_lit ?_
     (refine qe rfl (.agg #[.slice none 0 0, .int .i64 0, .int .i64 0, .int .u8 0, .int .u8 0, .int .u8 0, .int .u8 0, .bool false, .int .i64 0]) (by kernel_rfl) ?_; simp only [zn])
     (refine zr (t := 30) rfl _ _ rfl _ rfl _ rfl r2 (by kernel_rfl) rfl (by simp [stC, Value.oneCell']) (stK B (by omega) ?_); clear r2 B; intro wn r2 ze zf zg B; simp only [zn])
     refine chk 1 ?_; refine wpList_nil ?_; first | (refine bodyPost_ret (zL (t := 30) rfl _ _ (b_r2) rfl _ rfl r2 Tryz.isAgg30 (by kernel_rfl)) rfl ?_) | (go_step; refine bodyPost_ret (zL (t := 30) rfl _ _ (b_r2) rfl _ rfl r2 Tryz.isAgg30 (by kernel_rfl)) rfl ?_) | (go_step; go_step; refine bodyPost_ret (zL (t := 30) rfl _ _ (b_r2) rfl _ rfl r2 Tryz.isAgg30 (by kernel_rfl)) rfl ?_) | (go_step; go_step; go_step; refine bodyPost_ret (zL (t := 30) rfl _ _ (b_r2) rfl _ rfl r2 Tryz.isAgg30 (by kernel_rfl)) rfl ?_) | (go_step; go_step; go_step; go_step; refine bodyPost_ret (zL (t := 30) rfl _ _ (b_r2) rfl _ rfl r2 Tryz.isAgg30 (by kernel_rfl)) rfl ?_) | (go_step; go_step; go_step; go_step; go_step; refine bodyPost_ret (zL (t := 30) rfl _ _ (b_r2) rfl _ rfl r2 Tryz.isAgg30 (by kernel_rfl)) rfl ?_) | (go_step; go_step; go_step; go_step; go_step; go_step; refine bodyPost_ret (zL (t := 30) rfl _ _ (b_r2) rfl _ rfl r2 Tryz.isAgg30 (by kernel_rfl)) rfl ?_) | (go_step; go_step; go_step; go_step; go_step; go_step; go_step; refine bodyPost_ret (zL (t := 30) rfl _ _ (b_r2) rfl _ rfl r2 Tryz.isAgg30 (by kernel_rfl)) rfl ?_)
     exact ⟨.slice none 0 0, rfl, (qn.nil (E := spE) 0 wn).rs, B⟩
end Go.Proofs.YtepelndbbhdofaaGreatDoor
/- Contract of the reference's Split. -/
namespace Go.Proofs.YtepelndbbhdofaaGreatDoor
open Go.RowKit Go.Shelf Pl
set_option linter.unusedVariables false
set_option linter.unusedSimpArgs false
set_option maxRecDepth 20000
def prC (v : Value) (s : Stk) (u : Value) (t : Stk) (n : Int) : Array Value := #[v, .int .i64 s.rad, .int .i64 s.spa, .int .u8 s.col.r, .int .u8 s.col.g, .int .u8 s.col.b, .int .u8 s.col.a, .bool s.era, .int .i64 s.pha, u, .int .i64 t.rad, .int .i64 t.spa, .int .u8 t.col.r, .int .u8 t.col.g, .int .u8 t.col.b, .int .u8 t.col.a, .bool t.era, .int .i64 t.pha, .int .i64 n]
def Stk.none : Stk := ⟨[], 0, 0, Px.zero, false, 0⟩
/- Contracts of Shift of package stroke and of its reference. -/
/-! ### Points written in place in a row of the call's own -/
theorem Qp {f : Nat} (hf : f < 3) (v : Value) (a' : Sp) : ∀ (l : List Sp) (i : Nat), i < l.length → spE.enc a' = (spE.enc (pAt l i)).setIfInBounds f v → (jH spE l).set (i * 3 + f) v = jH spE (l.set i a')
 | [], i, h, _ => absurd h (Nat.not_lt_zero _)
 | a :: r, 0, _, he => by
  have he : spE.enc a' = (spE.enc a).setIfInBounds f v := he; show ((spE.enc a).toList ++ jH spE r).set (0 * 3 + f) v = (spE.enc a').toList ++ jH spE r
  rw [List.set_append_left _ _ (by rw [Array.length_toList, spE.size]; omega), he, Array.toList_setIfInBounds, Nat.zero_mul, Nat.zero_add]
 | a :: r, i + 1, h, he => by
  have he : spE.enc a' = (spE.enc (pAt r i)).setIfInBounds f v := he; show ((spE.enc a).toList ++ jH spE r).set ((i + 1) * 3 + f) v = (spE.enc a).toList ++ jH spE (r.set i a')
  have hl : (spE.enc a).toList.length = 3 := by rw [Array.length_toList, spE.size]
  rw [List.set_append_right _ _ (by rw [hl]; omega), hl, ← Qp hf v a' r i (by simpa using h) he]
  congr 2
  omega
theorem qn.setF {B g n c : Nat} {l : List Sp} {w : World} (h : qn spE B (.slice (some ⟨g, 0, none⟩) n c) l w) (hn : n = l.length) {i f : Nat} (hi : i < l.length) (hf : f < 3) (z : Int) (a' : Sp) (he : spE.enc a' = (spE.enc (pAt l i)).setIfInBounds f (.int .i64 z)) : qn spE B (.slice (some ⟨g, 0, none⟩) n c) (l.set i a') (w.setCell ⟨g, i * 3 + f, none⟩ (.int .i64 z)) := by
 obtain ⟨h1, h2⟩ := h
 rcases h2 with ⟨e, _⟩ | ⟨g', cap, cur, e, hg, hx, k1, k2, k3, k4⟩
 ·cases e
 ·injection e with e1 e2 e3
  injection e1 with e1
  injection e1 with e1 _ _
  subst e1 e3; have hr := Qp hf (.int .i64 z) a' l i hi he; refine ⟨by rw [← hr, List.length_set, h1]; simp, .inr ⟨g, c, cur.setIfInBounds (i * 3 + f) (.int .i64 z), by rw [List.length_set, hn], hg, heap_setCell_same w g (i * 3 + f) cur _ _ hx, by rw [List.length_set, ← hn, e2]; exact k1, k2, by rw [Array.size_setIfInBounds]; exact k3, ?_⟩⟩
  rw [← hr, ← k4, Array.toList_setIfInBounds, List.length_set, List.take_set]
theorem kx {ops : Array Oper} {rest : List Oper} {o : Oper} {a : Act} {w : World} {Q : Exit → Act → World → Prop} (hg : o.guard = none) (x y : Operand) (ho : o.op = .store 3 x y) (g j : Nat) (hx : a.eval x = .pointer (some ⟨g, j, none⟩)) (z : Int) (hy : a.eval y = .int .i64 z) {B n c : Nat} {l : List Sp} (h : qn spE B (.slice (some ⟨g, 0, none⟩) n c) l w) (hn : n = l.length) (i f : Nat) (hi : i < l.length) (hf : f < 3) (hj : j = i * 3 + f) (a' : Sp) (he : spE.enc a' = (spE.enc (pAt l i)).setIfInBounds f (.int .i64 z))
  (hk : ∀ w', qn spE B (.slice (some ⟨g, 0, none⟩) n c) (l.set i a') w' → Chg g w w' → w'.heap.size = w.heap.size → wpList Tryz.prog ops Q rest (a.put o.dst undef) w') : wpList Tryz.prog ops Q (o :: rest) a w := by
 subst hj
 obtain ⟨cs, hcs⟩ := h.block (b := g) rfl
 have f0 := (zV hcs).2 (i * 3 + f)
 have c0 : ∃ u, w.cell? ⟨g, i * 3 + f, none⟩ = some u := by
  obtain ⟨g2, o2, e2, rc⟩ := h.rs.at (by omega); obtain ⟨rfl, rfl⟩ : g = g2 ∧ 0 = o2 := by simpa using e2
  have h1 := rc.2 i (pAt l i) (qk hi) f hf; rw [Nat.zero_add] at h1; have hs : f < (spE.enc (pAt l i)).size := by rw [spE.size]; exact hf
  exact ⟨_, h1.trans (Array.getElem?_eq_getElem hs)⟩
 obtain ⟨u, c0⟩ := c0
 refine z2 hg x y ho (w.setCell ⟨g, i * 3 + f, none⟩ (.int .i64 z)) ?_ (hk _ (h.setF hn hi hf z a' he) ((Chg.refl g w).setCell _) (by simp only [World.size_setCell]))
 rw [hx, hy]
 simp [go_sem, c0, f0]
def shK (X Y : Int) (l : List Sp) (k : Nat) : List Sp := (l.take k).map (shP X Y) ++ l.drop k
/- Contract of Paste of the reference. -/
end Go.Proofs.YtepelndbbhdofaaGreatDoor
/- Paste of both packages, whether the rectangle fits or not. -/
namespace Go.Proofs.YtepelndbbhdofaaGreatDoor
open Go.RowKit Go.Shelf Pl
set_option linter.unusedVariables false
set_option linter.unusedSimpArgs false
theorem Wj (v : Value) (ls : List TA) (c : Rc) (u : Value) (L : List Px) (w : World) (h : RS v ls w) (tk : qR ls) (hn : ls.length ≤ maxLen) (hu : RSE pxE u L w) (hLn : L.length ≤ maxLen) (okL : OkL L) : Calls Tryz.prog 77 #[.agg #[v], .agg (jS c u)] w fun e w' => ∃ a cp, e = .returned (.tuple #[.agg #[.slice a (y4 c L ls).length cp], .int .i64 (wS c L ls)]) ∧ RS (.slice a (y4 c L ls).length cp) (y4 c L ls) w' ∧ Below w.heap.size w w' := by
 obtain ⟨ad, cu, rfl, hcu⟩ := hu.len
 by_cases hV : jB c = true
 ·by_cases hA : (L.length : Int) = kB c
  ·have e1 : y4 c L ls = if jf c = 0 then x3 (j3 c L (qN ls) (x5 c)) else [] := if_pos ⟨hV, hA⟩
   have e2 : wS c L ls = if jf c = 0 then yY (j3 c L (qN ls) (x5 c)) else jf c := if_pos ⟨hV, hA⟩
   by_cases hF : jf c = 0
   ·rw [e1, e2, if_pos hF, if_pos hF]
    have hL : L.length = areaN c := by have := Ze (xO hF); omega
    exact X3 v ls c _ L w h tk hn hF hu hL okL
   ·rw [e1, e2, if_neg hF, if_neg hF]
    refine (JE v ls c ad L.length cu w h hLn hV hA.symm _ rfl hF).mono fun e w' ⟨he, hb⟩ => ?_
    exact ⟨none, 0, he, RS.nil _, hb⟩
  ·have e1 : y4 c L ls = [] := if_neg (fun e => hA e.2)
   have e2 : wS c L ls = 1 := if_neg (fun e => hA e.2); rw [e1, e2]; refine (JG v ls c ad L.length cu w h hLn hV _ rfl hA).mono fun e w' ⟨he, hb⟩ => ?_
   exact ⟨none, 0, he, RS.nil _, hb⟩
 ·have e1 : y4 c L ls = [] := if_neg (fun e => hV e.1)
  have e2 : wS c L ls = 1 := if_neg (fun e => hV e.1); rw [e1, e2]; refine (JF v ls c ad L.length cu w h hLn (by simpa using hV)).mono fun e w' ⟨he, hb⟩ => ?_
  exact ⟨none, 0, he, RS.nil _, hb⟩
theorem Wl (v : Value) (ls ks : List TA) (E : Int) (c : Rc) (u : Value) (L : List Px) (w : World) (h : RS v ls w) (tk : qR ls) (hn : ls.length ≤ maxLen) (hu : RSE pxE u L w) (hLn : L.length ≤ maxLen) (okL : OkL L) (e1 : y4 c L ls = ks) (e2 : wS c L ls = E) : Calls Tryz.prog 77 #[.agg #[v], .agg (jS c u)] w fun e w' => ∃ a cp, e = .returned (.tuple #[.agg #[.slice a ks.length cp], .int .i64 E]) ∧ RS (.slice a ks.length cp) ks w' ∧ Below w.heap.size w w' := by
 subst e1 e2
 exact Wj v ls c u L w h tk hn hu hLn okL
end Go.Proofs.YtepelndbbhdofaaGreatDoor
/- Painting strokes: regions that draw their order within a round; an image that the call owns; the two closures. -/
namespace Go.Proofs.YtepelndbbhdofaaGreatDoor
open Go.RowKit Go.Shelf Pl
set_option linter.unusedVariables false
set_option linter.unusedSimpArgs false
set_option maxRecDepth 20000
theorem X0 (K : Act → World → Prop) : zK (qh K) = qh K := by
 funext e a w
 cases e <;> rfl
section
variable {P : Program} {n0 r : Nat}
/-- A region that draws its order, within a round: as wp_region_RL. -/
theorem Xu {id : Nat} {Q : Exit → Act → World → Prop} {a : Act} {w : World} {l : List Oper} (hd : vv l = true) (n : Nat) (S : List (Nat × jc)) (hm : P.follows .mixedOrders = true) (hB : yB .any l.toArray n = true) (hS0 : YB l.toArray (S.map (·.1)) = true)
  (h : kN P .any l.toArray (qh fun a w => Q .normal a w) (fun w' => ∃ u, w' = ov w u) (Qt S) (fun E a' => ∀ w', Below w.heap.size w w' → (∀ j, E j w') → wpList P l.toArray (zK (qh fun a w => Q .normal a w)) (l.drop n) a' w') (l.take n) 0 (fun _ _ => True) a) : (Code.region id l.toArray true).wpIn (Fence.wide.inRound r) n0 P Q a w := by
 have hn : n ≤ l.length := by
  have hB' := hB; simp only [yB, Bool.and_eq_true, decide_eq_true_eq] at hB'
  simpa using hB'.1.1.1
 have hlen : (l.take n).length = n := by simp; omega
 have h' := h fun j hj => by
  rw [hlen] at hj; simp [hj]
 rw [hlen, ← List.range_eq_range'] at h'
 have hS := ZM hS0
 simp only [yB, Bool.and_eq_true, decide_eq_true_eq] at hB
 obtain ⟨⟨⟨hn, hR⟩, htl⟩, hseq⟩ := hB
 refine VC hm hd ?_
 rw [← X0]
 have hdl : (l.drop n).length = l.toArray.size - n := by simp
 have := ZS (P := P) (Q := qh fun a w => Q .normal a w) (md := .any) (C := fun w' => ∃ u, w' = ov w u) (S := Qt S) (g := (l.drop n).length) hR htl (fun w1 w2 ⟨u, hu⟩ hb => by
   subst hu; exact ⟨w2, zN ((qw w u).trans (hb.mono (qw w u).size))⟩) hS
  (L := fun E a' => ∀ w', Below w.heap.size w w' → (∀ j, E j w') → wpList P l.toArray (zK (qh fun a w => Q .normal a w)) (l.drop n) a' w')
  (fun listed a' E w' zf hall hL ⟨u, hu⟩ hE => by
   have hT : listed = Array.replicate n true ++ Array.replicate (l.toArray.size - n) false := by
    apply Array.ext_getElem?
    intro j; rw [Array.getElem?_append, Array.size_replicate]; by_cases hjs : j < l.toArray.size
    ·have hjl : j < listed.size := by omega
     have h1 := hall j hjs; rw [Array.getD_eq_getD_getElem?, Array.getElem?_eq_getElem hjl, Option.getD_some] at h1; rw [Array.getElem?_eq_getElem hjl, h1]; by_cases hj : j < n
     ·rw [if_pos hj, Array.getElem?_replicate, if_pos hj, decide_eq_true hj]
     ·rw [if_neg hj, Array.getElem?_replicate, if_pos (by omega), decide_eq_false hj]
    ·rw [Array.getElem?_eq_none (by omega), if_neg (by omega), Array.getElem?_replicate, if_neg (by omega)]
   rw [hT]; refine wpAny_of_seq (l.drop n) n _ a' w' (fun j => by simp [List.getElem?_drop]) (by rw [hdl]; exact hseq) ?_
   subst hu; exact hL _ (qw w u) hE)
  n (List.range n) (Array.replicate l.toArray.size false) a (fun _ _ => True) w.drew (by simp) List.pairwise_lt_range (by simp) (fun k => by
   rw [List.mem_range, decide_eq_true_eq]; refine ⟨fun hk => ⟨by omega, hk, getD_in (by rw [Array.size_replicate]; omega) (getD_replicate_false _ _)⟩, fun hk => hk.2.1⟩)
  (fun t hts _ => getD_in (by rw [Array.size_replicate]; exact hts) (getD_replicate_false _ _)) (fun j oj _ hl => (by rw [getD_replicate_false] at hl; cases hl))
  ⟨w.drew, zN ((Below.refl _ _).drew)⟩ (fun _ => trivial) (fun _ _ _ _ _ => trivial) h'
 rw [hdl, show n + (l.toArray.size - n) = l.toArray.size by omega] at this
 exact this
end
/-- Two results that are blocks. -/
theorem jV {t u : TypeId} {fn : Func} {p r : Tmp} (h : fn.results = #[.cell p t, .cell r u]) (tmps : Array Value) (w : World) (b c : Nat) (hp : tmps.getD p undef = .pointer (some ⟨b, 0, none⟩)) (hr : tmps.getD r undef = .pointer (some ⟨c, 0, none⟩)) {cs : Array Value} {v : Value} (ht : AtB t w b cs) (hu : (Instr.loadAt u (.pointer (some ⟨c, 0, none⟩))).run Tryz.prog w = .ok v w) (hagg : ∀ w : World, (isAgg t).run Tryz.prog w = .ok true w) (zf : (Tryz.prog.info? t).map (·.size) = some cs.size) :
  (results fn tmps).run Tryz.prog w = .ok (.tuple #[.agg cs, v]) w := by
 have hl := zx ht hagg zf
 simp only [Instr.loadAt, Instr.sureAddr, Sem.run_bind, Sem.run_pure, Result.andThen_ok] at hl hu
 unfold results
 rw [h]
 have hp' : tmps[p]?.getD undef = .pointer (some ⟨b, 0, none⟩) := by simpa using hp
 have hr' : tmps[r]?.getD undef = .pointer (some ⟨c, 0, none⟩) := by simpa using hr
 simp [hp', hr', Instr.sureAddr, asAddr, hl, hu, Sem.run_bind, Sem.run_pure, Result.andThen_ok]
/-- Tiles beside what is no block of tiles. -/
theorem RS.own3 {v : Value} {ls : List TA} {W W' : World} {row : Option Nat} (h : RS v ls W) (hg : W.grownBy W' row) (hr : ∀ r, row = some r → (∃ o : Obj, W.heap[r]? = some o ∧ o.isCells = false) ∨ ∃ cs t, W.heap[r]? = some (.cells cs t (0, 0)) ∧ cs.size = 3) : RS v ls W' := by
 rcases h with h | ⟨g, o, c, e, hcap, sc⟩
 ·exact .inl h
 ·refine .inr ⟨g, o, c, e, hcap, fun hn => (sc hn).of_eq (hg.block g (sc hn).lt fun hg => ?_)⟩
  rcases hr g hg.symm with ⟨x, hx, hc⟩ | ⟨cs, t, hx, hs⟩
  ·have h0 := (sc hn).2 0 hn 0 (by omega)
   have hs : ∃ v, (taC (aT ls 0))[0]? = some v := ⟨_, Array.getElem?_eq_getElem (by rw [z1]; omega)⟩
   obtain ⟨v, hv⟩ := hs; rw [hv] at h0; have := Zm h0 x hx; rw [hc] at this; cases this
  ·have h1 := (sc hn).2 0 hn 257 (by omega)
   rw [cell_of_row W g _ cs _ (0, 0) hx] at h1; have h2 : (taC (aT ls 0))[257]? ≠ none := by
    rw [Ne, Array.getElem?_eq_none_iff, z1]; omega
   rw [← h1, Ne, Array.getElem?_eq_none_iff] at h2; omega
set_option maxHeartbeats 2000000 in
/-- Image: its pixels are a row that the call made. -/
theorem JA (v : Value) (ls : List TA) (c : Rc) (w : World) (h : RS v ls w) (tk : qR ls) (hv : ql ls = true) (hE : jf c = 0) : Calls Tryz.prog 76 #[.agg #[v], .agg (rcA c)] w fun e w' => ∃ cb, w.heap.size ≤ cb ∧ e = .returned (.tuple #[.agg (jS c (.slice (some ⟨cb, 0, none⟩) (areaN c) (areaN c))), .int .i64 0]) ∧ qW pxE w' cb (Zr c ls) ∧ Below w.heap.size w w' := by
 have B := Below.refl w.heap.size w
 have hn : ls.length ≤ maxLen := by have := (xl.1 hv).1; unfold maxLen; omega
 have HIM := Lib.hid (show zcI c (qN ls) = Zr c ls from by rw [yt hv]; exact zaf (xO hE) hv)
 obtain ⟨a', c', hT⟩ := YW v ls w h tk hn
 have HR0 := Lib.hid (hT w (Below.refl _ _)).2
 have HT := Lib.hid hT
 clear hT
 obtain ⟨a, cp, rfl, hc⟩ := h.len
 have TK := Lib.hid (yU tk)
 have HP := Lib.hid (zaa ls)
 have hfl := wF ls
 have FT := Lib.hid (xO hE)
 obtain ⟨an1, an2⟩ := uV FT.out
 have AR : Hid (∀ w, Calls Tryz.prog 125 #[.agg #[.int .i64 c.x0, .int .i64 c.y0, .int .i64 c.x1, .int .i64 c.y1]] w fun e w' => e = .returned (.int .i64 (areaN c : Int)) ∧ Below w.heap.size w w') := Lib.hid fun w => by
  have := VX c w FT.out.valid; rw [Ze FT.out] at this; exact this
 have FE : Hid (∀ w, Calls Tryz.prog 124 #[.agg #[.int .i64 c.x0, .int .i64 c.y0, .int .i64 c.x1, .int .i64 c.y1]] w fun e w' => e = .returned (.int .i64 0) ∧ Below w.heap.size w w') := Lib.hid fun w => by
  have := Wq c w; rw [hE] at this; exact this
 have eg := enters_of Tryz.func127 (by kernel_rfl) rfl
 clear h tk hE hv
 show Calls Tryz.prog 76 #[.agg #[.slice a ls.length cp], .agg #[.int .i64 c.x0, .int .i64 c.y0, .int .i64 c.x1, .int .i64 c.y1]] w _
 go_enter Tryz.func76, Tryz.ntmps76
 go_upto_region 4 with (first | (go_at_call 124; refine (FE.out _).mono ?_; rintro e wn ⟨rfl, za⟩; have zf := B.size; have zg := za.size; replace B := B.trans (za.mono B.size); (try replace r1 := r1.below za); (try replace r0 := r0.below za); (try replace m4 := m4.below za); (try replace m7 := m7.below za); (try replace row := row.below za)) | (refine zp (t := 38) rfl _ rfl _ _ _ rfl (xn r0) (by rfl) ?_; simp only [zn]) | (have _ := r0; refine zu (t := 117) rfl _ (xE _ _ rfl) (alK B ?_); clear B; intro b_m4 wn zb zd m4 za zf zk B; (try have zh := r1.lt); (try replace r1 := r1.below (za.mono zb)); (try have zh := r0.lt); (try replace r0 := r0.below (za.mono zb)); (try have zh := m4.lt); (try replace m4 := m4.below (za.mono zb)); (try have zh := m7.lt); (try replace m7 := m7.below (za.mono zb)); (try have zh := row.lt); (try replace row := row.below (za.mono zb)); simp only [zn]) | (have _ := r1; refine zt (t := 38) rfl _ rfl _ rfl (alK B ?_); clear B; intro b_r0 wn zb zd r0 za zf zk B; (try have zh := r1.lt); (try replace r1 := r1.below (za.mono zb)); (try have zh := r0.lt); (try replace r0 := r0.below (za.mono zb)); (try have zh := m4.lt); (try replace m4 := m4.below (za.mono zb)); (try have zh := m7.lt); (try replace m7 := m7.below (za.mono zb)); (try have zh := row.lt); (try replace row := row.below (za.mono zb)); simp only [zn]) | (refine zt (t := 64) rfl _ rfl _ rfl (alK B ?_); clear B; intro b_r1 wn zb zd r1 za zf zk B; (try have zh := r1.lt); (try replace r1 := r1.below (za.mono zb)); (try have zh := r0.lt); (try replace r0 := r0.below (za.mono zb)); (try have zh := m4.lt); (try replace m4 := m4.below (za.mono zb)); (try have zh := m7.lt); (try replace m7 := m7.below (za.mono zb)); (try have zh := row.lt); (try replace row := row.below (za.mono zb)); simp only [zn]) | fail)
 have q1 : w.heap.size ≤ b_r1 := by omega
 have q2 : b_r1 < b_r0 := by omega
 have q3 : b_r0 < b_m4 := by omega
 have q4 := m4.lt
 go_cut [7] from 14 to 18 (fun s wx => ∃ b_m7 b_row, s = .pointer (some ⟨b_m7, 0, none⟩) ∧ AtB 117 wx b_m7 (jS c (.slice (some ⟨b_row, 0, none⟩) (areaN c) (areaN c))) ∧ qW pxE wx b_row (List.replicate (areaN c) Px.zero) ∧ Below w.heap.size w wx ∧ b_m4 < b_m7 ∧ b_m4 < b_row ∧ b_m7 ≠ b_row ∧ AtB 64 wx b_r1 #[.slice a ls.length cp] ∧ AtB 38 wx b_r0 (rcA c) ∧ AtB 117 wx b_m4 (jS Rc.zero (.slice none 0 0)))
 case first =>
  try have r1B := r1
  try have r0B := r0
  try have m4B := m4
  try have m7B := m7
  try have rowB := row
  refine kz 6 #[false, false, false, false, false, false, false] (by kernel_rfl) (by kernel_rfl) ?_; intro wn za; have hX := za; have zf := B.size; have zg := za.size; replace B := B.trans (za.mono B.size); try replace r1 := r1.below za
  try replace r0 := r0.below za
  try replace m4 := m4.below za
  try replace m7 := m7.below za
  try replace row := row.below za
  simp only [List.length_cons, List.length_nil, Nat.reduceAdd]; refine qD 0 rfl (by kernel_rfl) ⟨_, zN hX⟩ ?_; intro K hK; try simp only [zR]
  (first | (refine zo (t := 38) rfl _ _ _ rfl (fun w hw => xn (zH r0B w hw)) (by rfl) ?_; simp only [zn]; go_big_quiet_on) | (go_big_quiet_op; go_big_quiet_on))
  simp only [zn]; refine qD 1 rfl (by kernel_rfl) ⟨_, zN hX⟩ ?_; intro K hK; try simp only [zR]
  (first | (refine zo (t := 38) rfl _ _ _ rfl (fun w hw => xn (zH r0B w hw)) (by rfl) ?_; simp only [zn]; go_big_quiet_on) | (go_big_quiet_op; go_big_quiet_on))
  simp only [zn]; refine xg 2 5 rfl rfl (by kernel_rfl) rfl rfl (fun K hK => ?_) (fun K hK => ?_)
  ·skip
   try simp only [zR]
   go_simp
   go_at_call 125
   refine (AR.out _).mono ?_; rintro e wn ⟨rfl, za⟩; have zf := B.size; have zg := za.size; have hsx := hX.size; replace B := B.trans (za.mono B.size); replace hX := hX.trans (za.mono hX.size); try replace r1 := r1.below za
   try replace r0 := r0.below za
   try replace m4 := m4.below za
   try replace m7 := m7.below za
   try replace row := row.below za
   refine hK _ _ ⟨fun _ => ⟨_, zN hX⟩, ?_⟩; clear hK K; try simp only [zR]
   simp only [zn]; refine xg 3 5 rfl rfl (by kernel_rfl) rfl rfl (fun K hK => ?_) (fun K hK => ?_)
   ·skip
    try simp only [zR]
    refine uj (E := pxE) _ _ rfl (areaN c) (by rfl) (by rfl) (by omega) (by omega) ?_; intro b_row wn zb zd ht za zg; have zf := B.size; have hsx := hX.size; replace B := B.trans (za.mono (by omega)); replace hX := hX.trans (za.mono (by omega)); try replace r1 := r1.below (za.mono zb)
    try replace r0 := r0.below (za.mono zb)
    try replace m4 := m4.below (za.mono zb)
    try replace m7 := m7.below (za.mono zb)
    try replace row := row.below (za.mono zb)
    have row := ht; clear ht; refine hK _ _ ⟨fun _ => ⟨_, zN hX⟩, ?_⟩; clear hK K; try simp only [zR]
    simp only [zn]; refine qD 4 rfl (by kernel_rfl) ⟨_, zN hX⟩ ?_; intro K hK; try simp only [zR]
    (first | (refine zo (t := 38) rfl _ _ _ rfl (fun w hw => xn (zH r0B w hw)) (by rfl) ?_; simp only [zn]; go_big_quiet_on) | (go_big_quiet_op; go_big_quiet_on))
    simp only [zn]; refine qf 5 rfl (by kernel_rfl) rfl (fun K hK => ?_); try simp only [zR]
    refine zM (t := 117) _ (xE _ _ rfl) ?_; intro b_m7 wn zb zd ht za zg; have zf := B.size; have hsx := hX.size; replace B := B.trans (za.mono (by omega)); replace hX := hX.trans (za.mono (by omega)); try replace r1 := r1.below (za.mono zb)
    try replace r0 := r0.below (za.mono zb)
    try replace m4 := m4.below (za.mono zb)
    try replace m7 := m7.below (za.mono zb)
    try replace row := row.below (za.mono zb)
    have m7 := ht; clear ht; refine hK _ _ ⟨fun _ => ⟨_, zN hX⟩, ?_⟩; clear hK K; try simp only [zR]
    simp only [zn]; refine qU (by kernel_rfl) (by kernel_rfl) ?_; simp only [List.drop_succ_cons, List.drop_zero]; go_wp2_with (first | (refine zr (t := 117) rfl _ _ rfl _ rfl _ rfl m7 (by kernel_rfl) rfl (by simp [jS, Value.oneCell']) (stK B (by omega) ?_); clear m7 B; intro wn m7 ze zf zg B; (try replace r1 := r1.of_eq (ze.block _ r1.lt (by omega))); (try replace r0 := r0.of_eq (ze.block _ r0.lt (by omega))); (try replace m4 := m4.of_eq (ze.block _ m4.lt (by omega))); (try replace row := row.of_eq (ze.block _ row.lt (by omega))); simp only [zn]) | fail)
    refine zK.normal ?_; go_wp2_with fail
    go_meet; exact ⟨b_m7, b_row, rfl, m7, row, B, by omega, by omega, by omega, r1, r0, m4⟩
   ·skip
    try simp only [zR]
    refine zM (t := 117) _ (xE _ _ rfl) ?_; intro b_m7 wn zb zd ht za zg; have zf := B.size; have hsx := hX.size; replace B := B.trans (za.mono (by omega)); replace hX := hX.trans (za.mono (by omega)); try replace r1 := r1.below (za.mono zb)
    try replace r0 := r0.below (za.mono zb)
    try replace m4 := m4.below (za.mono zb)
    try replace m7 := m7.below (za.mono zb)
    try replace row := row.below (za.mono zb)
    have m7 := ht; clear ht; refine hK _ _ ⟨fun _ => ⟨_, zN hX⟩, ?_⟩; clear hK K; try simp only [zR]
    simp only [zn]; refine qf 3 rfl (by kernel_rfl) rfl (fun K hK => ?_); try simp only [zR]
    refine uj (E := pxE) _ _ rfl (areaN c) (by rfl) (by rfl) (by omega) (by omega) ?_; intro b_row wn zb zd ht za zg; have zf := B.size; have hsx := hX.size; replace B := B.trans (za.mono (by omega)); replace hX := hX.trans (za.mono (by omega)); try replace r1 := r1.below (za.mono zb)
    try replace r0 := r0.below (za.mono zb)
    try replace m4 := m4.below (za.mono zb)
    try replace m7 := m7.below (za.mono zb)
    try replace row := row.below (za.mono zb)
    have row := ht; clear ht; refine hK _ _ ⟨fun _ => ⟨_, zN hX⟩, ?_⟩; clear hK K; try simp only [zR]
    simp only [zn]; refine qD 4 rfl (by kernel_rfl) ⟨_, zN hX⟩ ?_; intro K hK; try simp only [zR]
    (first | (refine zo (t := 38) rfl _ _ _ rfl (fun w hw => xn (zH r0B w hw)) (by rfl) ?_; simp only [zn]; go_big_quiet_on) | (go_big_quiet_op; go_big_quiet_on))
    simp only [zn]; refine qU (by kernel_rfl) (by kernel_rfl) ?_; simp only [List.drop_succ_cons, List.drop_zero]; go_wp2_with (first | (refine zr (t := 117) rfl _ _ rfl _ rfl _ rfl m7 (by kernel_rfl) rfl (by simp [jS, Value.oneCell']) (stK B (by omega) ?_); clear m7 B; intro wn m7 ze zf zg B; (try replace r1 := r1.of_eq (ze.block _ r1.lt (by omega))); (try replace r0 := r0.of_eq (ze.block _ r0.lt (by omega))); (try replace m4 := m4.of_eq (ze.block _ m4.lt (by omega))); (try replace row := row.of_eq (ze.block _ row.lt (by omega))); simp only [zn]) | fail)
    refine zK.normal ?_; go_wp2_with fail
    go_meet; exact ⟨b_m7, b_row, rfl, m7, row, B, by omega, by omega, by omega, r1, r0, m4⟩
  ·skip
   try simp only [zR]
   refine zM (t := 117) _ (xE _ _ rfl) ?_; intro b_m7 wn zb zd ht za zg; have zf := B.size; have hsx := hX.size; replace B := B.trans (za.mono (by omega)); replace hX := hX.trans (za.mono (by omega)); try replace r1 := r1.below (za.mono zb)
   try replace r0 := r0.below (za.mono zb)
   try replace m4 := m4.below (za.mono zb)
   try replace m7 := m7.below (za.mono zb)
   try replace row := row.below (za.mono zb)
   have m7 := ht; clear ht; refine hK _ _ ⟨fun _ => ⟨_, zN hX⟩, ?_⟩; clear hK K; try simp only [zR]
   simp only [zn]; refine qf 2 rfl (by kernel_rfl) rfl (fun K hK => ?_); try simp only [zR]
   go_simp
   go_at_call 125
   refine (AR.out _).mono ?_; rintro e wn ⟨rfl, za⟩; have zf := B.size; have zg := za.size; have hsx := hX.size; replace B := B.trans (za.mono B.size); replace hX := hX.trans (za.mono hX.size); try replace r1 := r1.below za
   try replace r0 := r0.below za
   try replace m4 := m4.below za
   try replace m7 := m7.below za
   try replace row := row.below za
   refine hK _ _ ⟨fun _ => ⟨_, zN hX⟩, ?_⟩; clear hK K; try simp only [zR]
   simp only [zn]; refine qf 3 rfl (by kernel_rfl) rfl (fun K hK => ?_); try simp only [zR]
   refine uj (E := pxE) _ _ rfl (areaN c) (by rfl) (by rfl) (by omega) (by omega) ?_; intro b_row wn zb zd ht za zg; have zf := B.size; have hsx := hX.size; replace B := B.trans (za.mono (by omega)); replace hX := hX.trans (za.mono (by omega)); try replace r1 := r1.below (za.mono zb)
   try replace r0 := r0.below (za.mono zb)
   try replace m4 := m4.below (za.mono zb)
   try replace m7 := m7.below (za.mono zb)
   try replace row := row.below (za.mono zb)
   have row := ht; clear ht; refine hK _ _ ⟨fun _ => ⟨_, zN hX⟩, ?_⟩; clear hK K; try simp only [zR]
   simp only [zn]; refine qD 4 rfl (by kernel_rfl) ⟨_, zN hX⟩ ?_; intro K hK; try simp only [zR]
   (first | (refine zo (t := 38) rfl _ _ _ rfl (fun w hw => xn (zH r0B w hw)) (by rfl) ?_; simp only [zn]; go_big_quiet_on) | (go_big_quiet_op; go_big_quiet_on))
   simp only [zn]; refine qU (by kernel_rfl) (by kernel_rfl) ?_; simp only [List.drop_succ_cons, List.drop_zero]; go_wp2_with (first | (refine zr (t := 117) rfl _ _ rfl _ rfl _ rfl m7 (by kernel_rfl) rfl (by simp [jS, Value.oneCell']) (stK B (by omega) ?_); clear m7 B; intro wn m7 ze zf zg B; (try replace r1 := r1.of_eq (ze.block _ r1.lt (by omega))); (try replace r0 := r0.of_eq (ze.block _ r0.lt (by omega))); (try replace m4 := m4.of_eq (ze.block _ m4.lt (by omega))); (try replace row := row.of_eq (ze.block _ row.lt (by omega))); simp only [zn]) | fail)
   refine zK.normal ?_; go_wp2_with fail
   go_meet; exact ⟨b_m7, b_row, rfl, m7, row, B, by omega, by omega, by omega, r1, r0, m4⟩
 case rest =>
  obtain ⟨b_m7, b_row, rfl, m7, row, B, p1, p2, p3, r1, r0, m4⟩ := hcut; have k0 : w.heap.size ≤ b_row := by omega
  have k1 : b_r0 ≠ b_row := by omega
  have k2 : b_m7 ≠ b_row := p3; have k3 : b_m4 ≠ b_row := by omega
  have k4 : b_m7 ≠ b_m4 := by omega
  go_wp2_with (first | (refine zr (t := 117) rfl _ _ rfl _ rfl _ rfl m4 (by kernel_rfl) rfl (by simp [jS, Value.oneCell']) (stK B (by omega) ?_); clear m4 B; intro wn m4 ze zf zg B; (try replace r1 := r1.of_eq (ze.block _ r1.lt (by omega))); (try replace r0 := r0.of_eq (ze.block _ r0.lt (by omega))); (try replace m7 := m7.of_eq (ze.block _ m7.lt (by omega))); (try replace row := row.of_eq (ze.block _ row.lt (by omega))); simp only [zn]) | (refine zp (t := 117) rfl _ rfl _ _ _ rfl (w8 m7) (by rfl) ?_; simp only [zn]) | (go_at_call 126; have hr0 := r0.lt; have hr1 := m7.lt; have hr2 := row.lt; have hsp := Yx HR0.out k0; have zf := B.size; refine (JK (yV c) (fun s W => AtB 38 W b_r0 (rcA c) ∧ AtB 117 W b_m7 (jS c (.slice (some ⟨b_row, 0, none⟩) (areaN c) (areaN c))) ∧ qW pxE W b_row s ∧ s.length = areaN c) b_row 127 #[.pointer (some ⟨b_r0, 0, none⟩), .pointer (some ⟨b_m7, 0, none⟩)] eg _ (qN ls) (List.replicate (areaN c) Px.zero) _ (HT.out _ B).2 TK.out (by omega) HP.out hr2 hsp ⟨r0, m7, row, by simp⟩ (fun s W W' hI hk => ⟨hI.1.of_eq (hk _ hr0), hI.2.1.of_eq (hk _ hr1), hI.2.2.1.of_eq (hk _ hr2), hI.2.2.2⟩) (fun s W x y p _ hI h1 h2 h3 h4 hp => (Wc c FT.out s hI.2.2.2 x y p b_r0 b_m7 b_row W hI.1 hI.2.1 hI.2.2.1 k1 k2).mono fun e W' hh => ⟨hh.1, ⟨hh.2.1.1, hh.2.1.2.1, hh.2.1.2.2, (zad c s x y p).trans hI.2.2.2⟩, hh.2.2⟩) (zbZ c)).mono ?_; rintro e wn ⟨v1, rfl, _, hI, hcc⟩; have zg := hcc.size; replace m4 := m4.of_eq (hcc.block _ m4.lt k3); replace B := Chg.below B hcc k0 zf; obtain ⟨r0, m7, row, hlen⟩ := hI) | (go_at_call 104; refine (HT.out _ B).1.mono ?_; rintro e wn ⟨rfl, za⟩; have zf := B.size; have zg := za.size; replace B := B.trans (za.mono B.size); (try replace r1 := r1.below za); (try replace r0 := r0.below za); (try replace m4 := m4.below za); (try replace m7 := m7.below za); (try replace row := row.below za)) | (refine zp (t := 64) rfl _ rfl _ _ _ rfl (zx r1 Tryz.isAgg64 (by kernel_rfl)) (by rfl) ?_; simp only [zn]) | fail)
  refine bodyPost_ret (zL (t := 117) rfl _ _ (b_m4) rfl _ rfl m4 Tryz.isAgg117 (by kernel_rfl)) rfl ?_; refine ⟨_, k0, rfl, ?_, B⟩; rw [← HIM.out]; exact row
/-! ### The row, half painted -/
def yL (c : Rc) (F G : Int → Int → Px) (k : Nat) : List Px := (List.range (areaN c)).map fun j => if j < k then F (pxX c j) (pxY c j) else G (pxX c j) (pxY c j)
theorem zak (c : Rc) (F G : Int → Int → Px) (k : Nat) : (yL c F G k).length = areaN c := by unfold yL; rw [List.length_map, List.length_range]
theorem Vi (c : Rc) (ls : List TA) (F : Int → Int → Px) : yL c F (fun x y => xq ls x y) 0 = Zr c ls := by
 unfold yL Zr
 refine List.map_congr_left fun j _ => ?_
 rw [if_neg (by omega)]
theorem zaj (c : Rc) (F G : Int → Int → Px) : yL c F G (areaN c) = yx c F := by
 unfold yL yx
 refine List.map_congr_left fun j hj => ?_
 rw [if_pos (List.mem_range.1 hj)]
theorem zb2 (c : Rc) (F G : Int → Int → Px) {k : Nat} (h : k < areaN c) : (yL c F G k)[k]? = some (G (pxX c k) (pxY c k)) := by
 unfold yL
 rw [List.getElem?_map, List.getElem?_range h]
 show some (if k < k then _ else _) = _
 rw [if_neg (by omega)]
theorem zal (c : Rc) (F G : Int → Int → Px) {k : Nat} (h : k < areaN c) : (yL c F G k).set k (F (pxX c k) (pxY c k)) = yL c F G (k + 1) := by
 apply List.ext_getElem?
 intro j
 rw [List.getElem?_set]
 unfold yL
 by_cases e : k = j
 ·subst e
  rw [if_pos rfl, if_pos (by rw [List.length_map, List.length_range]; exact h), List.getElem?_map, List.getElem?_range h]
  show _ = some (if k < k + 1 then _ else _)
  rw [if_pos (by omega)]
 ·rw [if_neg e]
  by_cases hj : j < areaN c
  ·rw [List.getElem?_map, List.getElem?_map, List.getElem?_range hj]
   show some (if j < k then _ else _) = some (if j < k + 1 then _ else _)
   by_cases hk : j < k
   ·rw [if_pos hk, if_pos (by omega)]
   ·rw [if_neg hk, if_neg (by omega)]
  ·rw [List.getElem?_eq_none (by rw [List.length_map, List.length_range]; omega), List.getElem?_eq_none (by rw [List.length_map, List.length_range]; omega)]
theorem Vh (c : Rc) (F G : Int → Int → Px) {k : Nat} (h : F (pxX c k) (pxY c k) = G (pxX c k) (pxY c k)) : yL c F G (k + 1) = yL c F G k := by
 unfold yL
 refine List.map_congr_left fun j _ => ?_
 by_cases hk : j < k
 ·rw [if_pos hk, if_pos (by omega)]
 ·rw [if_neg hk]
  by_cases hj : j < k + 1
  ·rw [if_pos hj, show j = k by omega, h]
  ·rw [if_neg hj]
/-- The pixel at a row and a column. -/
theorem zan {c : Rc} (hf : jL c) (F G : Int → Int → Px) {i j : Nat} (hj : (j : Int) < c.x1 - c.x0) (hi : (i : Int) < c.y1 - c.y0) : i * widN c + j < areaN c ∧ (yL c F G (i * widN c + j))[i * widN c + j]? = some (G (c.x0 + j) (c.y0 + i)) ∧ (yL c F G (i * widN c + j)).set (i * widN c + j) (F (c.x0 + j) (c.y0 + i)) = yL c F G (i * widN c + (j + 1)) ∧ (F (c.x0 + j) (c.y0 + i) = G (c.x0 + j) (c.y0 + i) → yL c F G (i * widN c + (j + 1)) = yL c F G (i * widN c + j)) := by
 obtain ⟨k, e, hk, ex, ey⟩ := zaO hf hj hi
 have hw : c.x1 - c.x0 = (widN c : Int) := by unfold widN; have := hf.h1; omega
 have ek : k = i * widN c + j := by
  rw [hw] at e; omega
 subst ek
 have h1 := zb2 c F G hk
 have h2 := zal c F G hk
 have h3 := Vh c F G (k := i * widN c + j)
 rw [ex, ey] at h1 h2 h3
 rw [← Nat.add_assoc]
 exact ⟨hk, h1, h2, h3⟩
/-! ### The two closures -/
def chP (s : Stk) (p : Px) (n : Int) : Px := if s.era = true then ut p (255 - n) else wO p s.col 0 n
theorem Kf (s : Stk) (n : Int) (p : Px) : Q0 s n p = if 0 < n then chP s p n else p := rfl
theorem vI (w : World) (o : Oper) (ho : o.op = .alloc 28) (ev : Operand → Value) : (execOp ev o).run Tryz.prog w = .ok (.value (.pointer (some ⟨w.heap.size, 0, none⟩))) (w.alloc (.cells #[.int .u8 0, .int .u8 0, .int .u8 0, .int .u8 0] 28)) := by
 obtain ⟨d, p, t, ps, af, gd⟩ := o
 simp only at ho
 subst ho
 kernel_rfl
theorem zbn (q r : Px) (c : Int) (w : World) (hq : q.ok) (e : ut q c = r) : Calls Tryz.prog 75 #[.agg (pxE.enc q), .int .i64 c] w fun e w' => e = .returned (.agg (pxE.enc r)) ∧ Below w.heap.size w w' := e ▸ zcQ q c w hq
theorem zbp (q p r : Px) (m c : Int) (w : World) (hq : q.ok) (hp : p.ok) (e : wO q p m c = r) : Calls Tryz.prog 73 #[.agg (pxE.enc q), .agg (pxE.enc p), .int .i64 m, .int .i64 c] w fun e w' => e = .returned (.agg (pxE.enc r)) ∧ Below w.heap.size w w' := e ▸ zcS q p m c w hq hp
theorem We (v : Value) (s : Stk) (p q : Px) (n : Int) (b : Nat) (w : World) (s2 : AtB 30 w b (stC v s)) (hp : p.ok) (hc : s.col.ok) (e : wO p s.col 0 n = q) : Calls Tryz.prog 72 #[.agg (pxE.enc p), .int .i64 n, .pointer (some ⟨b, 0, none⟩)] w fun e w' => e = .returned (.agg (pxE.enc q)) ∧ Below w.heap.size w w' := by
 have B := Below.refl w.heap.size w
 have HP := Lib.hid hp
 have HC := Lib.hid hc
 have HE := Lib.hid e
 clear hp hc e
 go_enter Tryz.func72, Tryz.ntmps72
 go_upto_region 0 with fail
 refine wp_region_lit ?_
 try simp only [zR]
 (refine zt (t := 28) rfl _ rfl _ rfl (alK B ?_); clear B; intro b_r3 wn zb zd r3 za zf zk B; (try have zh := s2.lt); (try replace s2 := s2.below (za.mono zb)); simp only [zn])
 (refine zu (t := 28) rfl _ (vI _ _ rfl) (alK B ?_); clear B; intro b_r5 wn zb zd r5 za zf zk B; (try have zh := r3.lt); (try replace r3 := r3.below (za.mono zb)); (try have zh := s2.lt); (try replace s2 := s2.below (za.mono zb)); simp only [zn])
 refine wpList_nil ?_
 have k1 : b_r3 < b_r5 := by have := r3.lt; omega
 replace r3 : AtB 28 _ b_r3 (pxE.enc p) := r3
 go_upto_region 1 with fail
 refine wp_region_lit ?_
 try simp only [zR]
 refine chq 4 ?_
 repeat (first | go_big_quiet_skip | (go_big_quiet_want; first | ((first | refine zo (t := 28) rfl _ _ _ rfl (fun w hw => jF (zH s2 w hw)) (by rfl) ?_ | refine qB ?_ | refine qC ?_); simp only [zn]; go_big_quiet_on) | (go_big_quiet_op; go_big_quiet_on)))
 refine wpQuiet_nil ?_
 refine clF (enters_of Tryz.func73 (by kernel_rfl) rfl) (c := zbp p s.col q 0 n _ HP.out HC.out HE.out) (h := ?_)
 rintro e wn ⟨rfl, za⟩
 have zf := B.size
 have zg := za.size
 replace B := B.trans (za.mono B.size)
 (try replace r5 := r5.below za)
 refine ⟨_, rfl, ?_⟩
 simp only [zn]
 (refine zr (t := 28) rfl _ _ rfl _ rfl _ rfl r5 (by kernel_rfl) rfl (by simp [pxE, pxA, Value.oneCell']) (stK B (by omega) ?_); clear r5 B; intro wn r5 ze zf zg B; simp only [zn])
 refine wpList_nil ?_
 first | (refine bodyPost_ret (zv (t := 28) rfl _ _ (b_r5) rfl r5 Tryz.isAgg28 (by kernel_rfl)) rfl ?_) | (go_step; refine bodyPost_ret (zv (t := 28) rfl _ _ (b_r5) rfl r5 Tryz.isAgg28 (by kernel_rfl)) rfl ?_) | (go_step; go_step; refine bodyPost_ret (zv (t := 28) rfl _ _ (b_r5) rfl r5 Tryz.isAgg28 (by kernel_rfl)) rfl ?_) | (go_step; go_step; go_step; refine bodyPost_ret (zv (t := 28) rfl _ _ (b_r5) rfl r5 Tryz.isAgg28 (by kernel_rfl)) rfl ?_) | (go_step; go_step; go_step; go_step; refine bodyPost_ret (zv (t := 28) rfl _ _ (b_r5) rfl r5 Tryz.isAgg28 (by kernel_rfl)) rfl ?_) | (go_step; go_step; go_step; go_step; go_step; refine bodyPost_ret (zv (t := 28) rfl _ _ (b_r5) rfl r5 Tryz.isAgg28 (by kernel_rfl)) rfl ?_)
 exact ⟨rfl, B⟩
theorem Wf (p q : Px) (n : Int) (w : World) (hn : 0 ≤ n ∧ n ≤ 255) (hp : p.ok) (e : ut p (255 - n) = q) : Calls Tryz.prog 74 #[.agg (pxE.enc p), .int .i64 n] w fun e w' => e = .returned (.agg (pxE.enc q)) ∧ Below w.heap.size w w' := by
 have B := Below.refl w.heap.size w
 have HP := Lib.hid hp
 have HE := Lib.hid e
 clear hp e
 go_enter Tryz.func74, Tryz.ntmps74
 go_upto_region 0 with fail
 refine wp_region_lit ?_
 try simp only [zR]
 (refine zt (t := 28) rfl _ rfl _ rfl (alK B ?_); clear B; intro b_r2 wn zb zd r2 za zf zk B; simp only [zn])
 (refine zu (t := 28) rfl _ (vI _ _ rfl) (alK B ?_); clear B; intro b_r4 wn zb zd r4 za zf zk B; (try have zh := r2.lt); (try replace r2 := r2.below (za.mono zb)); simp only [zn])
 refine wpList_nil ?_
 have k1 : b_r2 < b_r4 := by have := r2.lt; omega
 replace r2 : AtB 28 _ b_r2 (pxE.enc p) := r2
 go_upto_region 1 with fail
 refine wp_region_lit ?_
 try simp only [zR]
 refine chk 3 ?_
 refine clF (enters_of Tryz.func75 (by kernel_rfl) rfl) (c := zbn p q (255 - n) _ HP.out HE.out) (h := ?_)
 rintro e wn ⟨rfl, za⟩
 have zf := B.size
 have zg := za.size
 replace B := B.trans (za.mono B.size)
 (try replace r4 := r4.below za)
 refine ⟨_, rfl, ?_⟩
 simp only [zn]
 (refine zr (t := 28) rfl _ _ rfl _ rfl _ rfl r4 (by kernel_rfl) rfl (by simp [pxE, pxA, Value.oneCell']) (stK B (by omega) ?_); clear r4 B; intro wn r4 ze zf zg B; simp only [zn])
 refine wpList_nil ?_
 first | (refine bodyPost_ret (zv (t := 28) rfl _ _ (b_r4) rfl r4 Tryz.isAgg28 (by kernel_rfl)) rfl ?_) | (go_step; refine bodyPost_ret (zv (t := 28) rfl _ _ (b_r4) rfl r4 Tryz.isAgg28 (by kernel_rfl)) rfl ?_) | (go_step; go_step; refine bodyPost_ret (zv (t := 28) rfl _ _ (b_r4) rfl r4 Tryz.isAgg28 (by kernel_rfl)) rfl ?_) | (go_step; go_step; go_step; refine bodyPost_ret (zv (t := 28) rfl _ _ (b_r4) rfl r4 Tryz.isAgg28 (by kernel_rfl)) rfl ?_) | (go_step; go_step; go_step; go_step; refine bodyPost_ret (zv (t := 28) rfl _ _ (b_r4) rfl r4 Tryz.isAgg28 (by kernel_rfl)) rfl ?_) | (go_step; go_step; go_step; go_step; go_step; refine bodyPost_ret (zv (t := 28) rfl _ _ (b_r4) rfl r4 Tryz.isAgg28 (by kernel_rfl)) rfl ?_)
 exact ⟨rfl, B⟩
end Go.Proofs.YtepelndbbhdofaaGreatDoor
/- Contract of Paint of package stroke. -/
namespace Go.Proofs.YtepelndbbhdofaaGreatDoor
open Go.RowKit Go.Shelf Pl
attribute [local go_sem] Oper.semAt_some
set_option linter.unusedVariables false
set_option linter.unusedSimpArgs false
set_option maxRecDepth 20000
section
variable {F : Fence} {n : Nat} {P : Program}
/-- As rangeFunc_O, where the body may return. -/
theorem Q8 {α : Type} {g : Operand} {ps : Array Tmp} {assign body : Code} {Q : Exit → Act → World → Prop} {a : Act} {w : World}
  (hro : F.round = none) (h1 : 1 ≤ n) {gf : Nat} {lb : Array Value} (hg : a.eval g = .func (.func gf) #[] lb) (hFg : F.fn gf) (eg : ∀ args w, (callFunc gf args).run P w = .ok (.enter gf args) w)
  {encs : α → Array Value} {Kp : World → World → Prop} {S Sp : List α → Prop} {N : Nat} {w0 : World} (hseq : ue F (n - 1) P gf lb encs Kp S Sp N w0)
  (hKt : ∀ {A B C : World}, Kp A B → Kp B C → Kp A C) (hKb : ∀ (W : World) (l : Nat) (o o' : Obj), w.heap.size ≤ l → W.heap[l]? = some o → o.isCells = false → o.isWalk = false → Kp W (W.putObj l o'))
  (hKg : ∀ (A B : World), Below A.heap.size A B → Kp A B) (hb0 : Below w0.heap.size w0 w) (hps : ∀ x, (encs x).size = ps.size)
  (I Ix : List α → World → Prop) (hI0 : VW w.heap.size I) (hX0 : VW w.heap.size Ix) (h0 : I [] w) (As : α → Act → World → Prop) (hAs : ∀ x, OwnFrom w.heap.size (As x))
  (hassign : ∀ (l : Nat) (pre : List α) (x : α) (W : World) (K : Act → World → Prop), I pre W → w.heap.size + 2 < W.heap.size → (∀ a' W', Below W.heap.size W W' → As x a' W' → K a' W') →
   assign.wpIn (F.inRound l) (n - 1 - 1) P (Exit.then K (fun _ _ _ => False)) { tmps := (ps.zip (encs x)).foldl (fun t (p, v) => t.setIfInBounds p v) a.tmps, defers := [] } W)
  (hbody : ∀ (l : Nat) (pre : List α) (x : α) (W : World) (a' : Act), I pre W → As x a' W → pre.length < N → body.wpIn (F.inRound l) (n - 1 - 1) P (ownPostK Kp I (fun c xs W => c = .ret ∧ Ix xs W) (pre ++ [x]) W) a' W)
  (hdone : ∀ (D : Nat) (xs : List α) (W : World), w.heap.size ≤ D → S xs → I xs W → W.heap[D]? = some (.deferred (some [])) → Q .normal { a with defers := { target := .collected D, args := #[] } :: a.defers } W)
  (hstop : ∀ (D : Nat) (pre : List α) (W : World), w.heap.size ≤ D → Sp pre → Ix pre W → W.heap[D]? = some (.deferred (some [])) → Q .ret { a with defers := { target := .collected D, args := #[] } :: a.defers } W) :
  (Code.rangeFunc g ps assign body).wpIn F n P Q a w := by
 have hI : OwnFrom w.heap.size I := hI0.from
 have hX : OwnFrom w.heap.size Ix := hX0.from
 refine wpIn_rangeFunc fun fn hfn => ?_
 rw [hro]
 obtain ⟨rc, hrc⟩ : ∃ rc : LoopState → Option Code → Loop, rc = fun st pe => { state := st, pending := pe, fn, tmps := a.tmps, params := ps, assign, body, defers := w.heap.size } := ⟨_, rfl⟩
 obtain ⟨W1, hW1⟩ : ∃ W1, (w.alloc (.deferred (some []))).alloc (.loop (rc .ready none)) = W1 := ⟨_, rfl⟩
 have blkL : W1.heap[w.heap.size + 1]? = some (.loop (rc .ready none)) := by
  have := World.alloc_heap_new (w.alloc (.deferred (some []))) (.loop (rc .ready none)); rw [← hW1]
  rwa [World.size_alloc] at this
 have blkD : W1.heap[w.heap.size]? = some (.deferred (some [])) := by
  rw [← hW1]; exact (Below.heap_alloc _ _ _ (by simp)).trans (World.alloc_heap_new w _)
 have grown : Below w0.heap.size w0 W1 := by
  rw [← hW1]; exact hb0.trans ((((Below.refl _ w).alloc (Nat.le_refl _) _).alloc (by simp) _).mono hb0.size)
 have ZN : I [] W1 := by rw [← hW1]; exact hI.alloc _ (hI.alloc _ h0)
 refine ⟨w.heap.size + 1, [{ target := .collected w.heap.size, args := #[] }], W1, { target := .fn (.func gf) lb, args := #[.func (.yield (w.heap.size + 1)) #[] #[]] }, W1, gf,
  #[.func (.yield (w.heap.size + 1)) #[] #[]] ++ lb, W1, ?_, ?_, ?_, ?_, fun _ => h1, ?_⟩
 ·rw [← hW1, hrc]; exact run_enterLoop_outer _ _ _ _ _
 ·simp only [resolve, hg]
  simp [go_sem]
 ·intro f' hf'
  simp [Target.leads] at hf'
  subst hf'; exact hFg
 ·simp [invoke, go_sem, eg]
 have hszW1 : W1.heap.size = w.heap.size + 2 := by rw [← hW1]; simp
 have book : ∀ (A B : World) (row : Option Nat) (c : Loop), A.grownBy B row → (∀ r, row = some r → JN W1.heap.size A r) → A.heap[w.heap.size + 1]? = some (.loop c) → A.heap[w.heap.size]? = some (.deferred (some [])) → B.heap[w.heap.size + 1]? = some (.loop c) ∧ B.heap[w.heap.size]? = some (.deferred (some [])) := fun A B row c hg' hr h1 h2 =>
  ⟨(hg'.block _ (Array.getElem?_eq_some_iff.1 h1).1 (fun e => by have := (hr _ e.symm).1; omega)).trans h1, (hg'.block _ (Array.getElem?_eq_some_iff.1 h2).1 (fun e => by have := (hr _ e.symm).1; omega)).trans h2⟩
 have turn : ∀ (A : World) (row : Option Nat), (∀ r, row = some r → JN W1.heap.size A r) → ∀ r, row = some r → w.heap.size ≤ r ∧ ((∃ o : Obj, A.heap[r]? = some o ∧ o.isCells = false) ∨ JN (w.heap.size + 2) A r) := fun A row hr r e => ⟨by have := (hr r e).1; omega, .inr (by have := hr r e; rwa [hszW1] at this)⟩
 refine (hseq (w.heap.size + 1)
  (fun pre W => I pre W ∧ W.heap[w.heap.size + 1]? = some (.loop (rc .ready none)) ∧ W.heap[w.heap.size]? = some (.deferred (some [])))
  (fun pre W => Ix pre W ∧ W.heap[w.heap.size + 1]? = some (.loop (rc .done (some .ret))) ∧ W.heap[w.heap.size]? = some (.deferred (some []))) W1 grown
  (fun s A B row hs hg' hr => ⟨hI0 s A B row hs.1 hg' (turn A row hr), book A B row _ hg' hr hs.2.1 hs.2.2⟩)
  (fun s A B row hs hg' hr => ⟨hX0 s A B row hs.1 hg' (turn A row hr), book A B row _ hg' hr hs.2.1 hs.2.2⟩) ?_ ⟨ZN, blkL, blkD⟩).mono ?_
 ·rintro pre x W ⟨hi, hl, hk⟩ hlen hbig
  have hy := run_yield (P := P) (args := encs x) hl (by rw [hrc]; exact hps x)
  rw [hrc] at hy; refine ⟨fn, _, assign, body, hy, roundIn_of_wpIn hfn (hassign _ pre x W _ hi (by rw [hszW1] at hbig; exact hbig) fun a' V hb ha => ?_)⟩
  have hlV : V.heap[w.heap.size + 1]? = some (.loop (rc .ready none)) := (hb.block _ (Array.getElem?_eq_some_iff.1 hl).1).trans hl; have hkV : V.heap[w.heap.size]? = some (.deferred (some [])) := (hb.block _ (Array.getElem?_eq_some_iff.1 hk).1).trans hk; have hiV : I pre V := hI pre W V none hi (jR hb) (fun r e => by cases e); refine ⟨_, run_beginRound hlV (by rw [hrc]), ?_⟩; obtain ⟨V1, hV1⟩ : ∃ V1, V.putObj (w.heap.size + 1) (.loop { rc .ready none with state := .busy }) = V1 := ⟨_, rfl⟩; have hl1 : V1.heap[w.heap.size + 1]? = some (.loop { rc .ready none with state := .busy }) := by rw [← hV1]; exact World.putObj_heap_same (Array.getElem?_eq_some_iff.1 hlV).1
  have hk1 : V1.heap[w.heap.size]? = some (.deferred (some [])) := by rw [← hV1]; exact (World.putObj_heap_other (by omega)).trans hkV
  have hKp1 : Kp W V1 := hKt (hKg _ _ hb) (by rw [← hV1]; exact hKb _ _ _ _ (by omega) hlV rfl rfl)
  have hi1 : I pre V1 := by rw [← hV1]; exact hI.putObj _ hiV (by omega) hlV rfl
  have ha1 : As x a' V1 := by rw [← hV1]; exact (hAs x).putObj _ ha (by omega) hlV rfl
  rw [hV1]; refine wpIn_mono (hbody _ pre x V1 a' hi1 ha1 hlen) ?_; rintro e a3 W3 hp; cases e with
  | normal =>
   obtain ⟨ko, kp, hi3⟩ := hp; have hl3 := ko.same _ _ hl1 rfl; have hk3 := ko.same _ _ hk1 rfl; have he := run_endRound (P := P) none hl3; rw [hrc] at he; refine ⟨_, _, he, .inl ⟨rfl, ⟨hI.putObj _ hi3 (by omega) hl3 rfl, ?_, (World.putObj_heap_other (by omega)).trans hk3⟩, hKt (hKt hKp1 kp) (hKb _ _ _ _ (by omega) hl3 rfl rfl)⟩⟩; rw [World.putObj_heap_same (Array.getElem?_eq_some_iff.1 hl3).1, hrc]
   rfl
  | ret =>
   obtain ⟨ko, _, hi3⟩ := hp; have hl3 := ko.same _ _ hl1 rfl; have hk3 := ko.same _ _ hk1 rfl; have he := run_endRound (P := P) (some .ret) hl3; rw [hrc] at he; refine ⟨_, _, he, .inr ⟨rfl, hX.putObj _ hi3 (by omega) hl3 rfl, ?_, (World.putObj_heap_other (by omega)).trans hk3⟩⟩; rw [World.putObj_heap_same (Array.getElem?_eq_some_iff.1 hl3).1, hrc]
   rfl
  | exit id => cases hp.2.1
  | goto t => cases hp.2.1
  | panic ch => exact hp.elim
  | outgrown => exact hp.elim
 ·rintro e W2 ⟨⟨v, rfl⟩, ⟨xs, hS, hi, hl, hk⟩ | ⟨pre, hSp, hi, hl, hk⟩⟩
  ·have he := run_endLoop (P := P) hl (by rw [hrc]; simp)
   rw [hrc] at he; exact ⟨none, _, he, hdone _ xs _ (Nat.le_refl _) hS (hI.putObj _ hi (by omega) hl rfl) ((World.putObj_heap_other (by omega)).trans hk)⟩
  ·have he := run_endLoop (P := P) hl (by rw [hrc]; simp)
   rw [hrc] at he; exact ⟨some .ret, _, he, wpIn_ret (hstop _ pre _ (Nat.le_refl _) hSp (hX.putObj _ hi (by omega) hl rfl) ((World.putObj_heap_other (by omega)).trans hk))⟩
end
/-! ### Blocks of an error, of a function -/
theorem wY (w : World) (o : Oper) (ho : o.op = .alloc 53) (ev : Operand → Value) : (execOp ev o).run Tryz.prog w = .ok (.value (.pointer (some ⟨w.heap.size, 0, none⟩))) (w.alloc (.cells #[.int .i64 0] 53)) := by
 obtain ⟨d, p, t, ps, af, gd⟩ := o
 simp only at ho
 subst ho
 kernel_rfl
theorem Jc (w : World) (o : Oper) (ho : o.op = .alloc 114) (ev : Operand → Value) : (execOp ev o).run Tryz.prog w = .ok (.value (.pointer (some ⟨w.heap.size, 0, none⟩))) (w.alloc (.cells #[.nilFunc] 114)) := by
 obtain ⟨d, p, t, ps, af, gd⟩ := o
 simp only at ho
 subst ho
 kernel_rfl
theorem jD {w : World} {b : Nat} {z : Int} (h : AtB 53 w b #[.int .i64 z]) : (Instr.loadAt 53 (.pointer (some ⟨b, 0, none⟩))).run Tryz.prog w = .ok (.int .i64 z) w := by
 have c0 := h.cell 0 rfl
 simp [go_sem, c0]
theorem XC {w : World} {b : Nat} {f : Fn} {x y : Array Value} (h : AtB 114 w b #[.func f x y]) : (Instr.loadAt 114 (.pointer (some ⟨b, 0, none⟩))).run Tryz.prog w = .ok (.func f x y) w := by
 have c0 := h.cell 0 rfl
 simp [go_sem, c0]
theorem vj {ops : Array Oper} {rest : List Oper} {o : Oper} {a : Act} {w : World} {Q : Exit → Act → World → Prop} (hg : o.guard = none) (x y : Operand) (ho : o.op = .store 53 x y) (b : Nat) (hx : a.eval x = .pointer (some ⟨b, 0, none⟩)) (z : Int) (hy : a.eval y = .int .i64 z) {v : Value} (ht : AtB 53 w b #[v])
  (h : ∀ w', AtB 53 w' b #[.int .i64 z] → Chg b w w' → w'.heap.size = w.heap.size → wpList Tryz.prog ops Q rest (a.put o.dst undef) w') : wpList Tryz.prog ops Q (o :: rest) a w := by
 have c0 := ht.cell 0 rfl
 have f0 := ht.frozen 0
 refine z2 hg x y ho (w.setCell ⟨b, 0, none⟩ (.int .i64 z)) ?_ (h _ ?_ ((Chg.refl b w).setCell _) (by simp only [World.size_setCell]))
 ·rw [hx, hy]
  simp [go_sem, c0, f0]
 ·exact heap_setCell_same w b 0 #[v] _ _ ht
theorem uK {ops : Array Oper} {rest : List Oper} {o : Oper} {a : Act} {w : World} {Q : Exit → Act → World → Prop} (hg : o.guard = none) (x y : Operand) (ho : o.op = .store 114 x y) (b : Nat) (hx : a.eval x = .pointer (some ⟨b, 0, none⟩)) (f : Fn) (p q : Array Value) (hy : a.eval y = .func f p q) {v : Value} (ht : AtB 114 w b #[v])
  (h : ∀ w', AtB 114 w' b #[.func f p q] → Chg b w w' → w'.heap.size = w.heap.size → wpList Tryz.prog ops Q rest (a.put o.dst undef) w') : wpList Tryz.prog ops Q (o :: rest) a w := by
 have c0 := ht.cell 0 rfl
 have f0 := ht.frozen 0
 refine z2 hg x y ho (w.setCell ⟨b, 0, none⟩ (.func f p q)) ?_ (h _ ?_ ((Chg.refl b w).setCell _) (by simp only [World.size_setCell]))
 ·rw [hx, hy]
  simp [go_sem, c0, f0]
 ·exact heap_setCell_same w b 0 #[v] _ _ ht
/-- An error stays. -/
theorem Vg (s : Stk) (k : Nat) (ls : List TA) {E : Int} (h : (xr s ((yu (ju s) k).map fun i => jz s i.val) ls).2 = E) (hE : E ≠ 0) : xr s (jP s) ls = ([], E) := by
 have e1 : jP s = ((yu (ju s) k).map fun i => jz s i.val) ++ ((List.finRange (ju s)).drop k).map fun i => jz s i.val := by
  rw [← Zo, ← List.map_append]; unfold yu; rw [List.take_append_drop]
 have e2 : xr s (jP s) ls = xr s ((yu (ju s) k).map fun i => jz s i.val) ls := by
  rw [e1]; unfold xr at *; rw [List.foldl_append]; exact Q1 s _ (by rw [h]; exact hE)
 rw [e2]
 exact Prod.ext (Ve s _ ls (by rw [h]; exact hE)) h
set_option maxHeartbeats 16000000 in
theorem X2 (v vs : Value) (s : Stk) (ls : List TA) (w : World) (lm : xf w) (h : RS v ls w) (tk : qR ls) (hn : ls.length ≤ maxLen) (rs : RSE spE vs s.pts w) (hv : jj s = true) (hcol : s.col.ok) : Calls Tryz.prog 30 #[.agg #[v], .agg (stC vs s)] w fun e w' => ∃ a cp, e = .returned (.tuple #[.agg #[.slice a (jT s ls).1.length cp], .int .i64 (jT s ls).2]) ∧ RS (.slice a (jT s ls).1.length cp) (jT s ls).1 w' ∧ Below w.heap.size w w' := by
 have B := Below.refl w.heap.size w
 have HV0 := Lib.hid hv
 have HVS := Lib.hid ((jq s).1 hv)
 have HCOL := Lib.hid hcol
 have HFIN := Lib.hid (show jT s ls = xr s (jP s) (qN ls) from if_pos hv)
 have hl1 := HVS.out.l1
 have hl2 := HVS.out.l2
 obtain ⟨ad, cd, rfl, hcd⟩ := rs.len
 obtain ⟨g, o, rfl, pc⟩ := rs.at (by omega)
 obtain ⟨a, c, rfl, hc⟩ := h.len
 have TK := Lib.hid tk
 have rs1 := h
 have hg0 := pc.lt
 have hlm0 := lm.lt
 clear hv hcol h tk
 refine (callsIn_wide (n := 3)).1 ?_
 refine callsIn_of_wp_marks Tryz.func30 rfl trivial ?_ rfl
 simp only [Tryz.ntmps30, List.size_toArray, List.length_cons, List.length_nil, Nat.reduceAdd, Nat.reduceSub, Array.replicate_succ, Array.replicate_zero, List.push_toArray, List.append_toArray, List.nil_append, List.cons_append]
 refine wpIn_wide.2 ?_
 go_upto_region 0 with fail
 refine wp_region_lit ?_
 (refine zt (t := 64) rfl _ rfl _ rfl (alK B ?_); clear B; intro b_r2 wn zb zd r2 za zf zk B; (try have zh := lm.lt); (try replace lm := lm.below (za.mono zb)); (try have zh := rs1.lt); (try replace rs1 := rs1.below (za.mono zb)); (try have zh := pc.lt); (try replace pc := pc.below (za.mono zb)); (try have zh := rs.lt); (try replace rs := rs.below (za.mono zb)); simp only [zn])
 (refine zt (t := 30) rfl _ rfl _ rfl (alK B ?_); clear B; intro b_r3 wn zb zd r3 za zf zk B; (try have zh := r2.lt); (try replace r2 := r2.below (za.mono zb)); (try have zh := lm.lt); (try replace lm := lm.below (za.mono zb)); (try have zh := rs1.lt); (try replace rs1 := rs1.below (za.mono zb)); (try have zh := pc.lt); (try replace pc := pc.below (za.mono zb)); (try have zh := rs.lt); (try replace rs := rs.below (za.mono zb)); simp only [zn])
 (refine zu (t := 64) rfl _ (jd _ _ rfl) (alK B ?_); clear B; intro b_r4 wn zb zd r4 za zf zk B; (try have zh := r2.lt); (try replace r2 := r2.below (za.mono zb)); (try have zh := r3.lt); (try replace r3 := r3.below (za.mono zb)); (try have zh := lm.lt); (try replace lm := lm.below (za.mono zb)); (try have zh := rs1.lt); (try replace rs1 := rs1.below (za.mono zb)); (try have zh := pc.lt); (try replace pc := pc.below (za.mono zb)); (try have zh := rs.lt); (try replace rs := rs.below (za.mono zb)); simp only [zn])
 (refine zu (t := 53) rfl _ (wY _ _ rfl) (alK B ?_); clear B; intro b_e5 wn zb zd e5 za zf zk B; (try have zh := r2.lt); (try replace r2 := r2.below (za.mono zb)); (try have zh := r3.lt); (try replace r3 := r3.below (za.mono zb)); (try have zh := r4.lt); (try replace r4 := r4.below (za.mono zb)); (try have zh := lm.lt); (try replace lm := lm.below (za.mono zb)); (try have zh := rs1.lt); (try replace rs1 := rs1.below (za.mono zb)); (try have zh := pc.lt); (try replace pc := pc.below (za.mono zb)); (try have zh := rs.lt); (try replace rs := rs.below (za.mono zb)); simp only [zn])
 refine wpList_nil ?_
 have k2 : w.heap.size ≤ b_r2 := by omega
 have k3 : b_r2 < b_r3 := by have := r2.lt; omega
 have k4 : b_r3 < b_r4 := by have := r3.lt; omega
 have k5 : b_r4 < b_e5 := by have := r4.lt; omega
 go_upto_region 1 with fail
 refine wp_region_lit ?_
 refine chk 1 ?_
 refine clF (enters_of Tryz.func16 (by kernel_rfl) rfl) (c := jx _ s true _ rs (by omega) HV0.out) (h := ?_)
 rintro e wn ⟨rfl, za⟩
 have zf := B.size
 have zg := za.size
 replace B := B.trans (za.mono B.size)
 (try replace r2 := r2.below za)
 (try replace r3 := r3.below za)
 (try replace r4 := r4.below za)
 (try replace e5 := e5.below za)
 (try replace lm := lm.below za)
 (try replace rs1 := rs1.below za)
 (try replace pc := pc.below za)
 (try replace rs := rs.below za)
 refine ⟨_, rfl, ?_⟩
 simp only [zn]
 refine chk 1 ?_
 refine wpList_nil ?_
 clear rs
 go_upto_region 3 with fail
 refine wp_region_lit ?_
 (refine qe rfl (.func (.func 72) #[] #[.pointer (some ⟨b_r3, 0, none⟩)]) (by first | rfl | simp [go_sem, Act.eval]) ?_; simp only [zn])
 (refine zu (t := 114) rfl _ (Jc _ _ rfl) (alK B ?_); clear B; intro b_f6 wn zb zd f6 za zf zk B; (try have zh := r2.lt); (try replace r2 := r2.below (za.mono zb)); (try have zh := r3.lt); (try replace r3 := r3.below (za.mono zb)); (try have zh := r4.lt); (try replace r4 := r4.below (za.mono zb)); (try have zh := e5.lt); (try replace e5 := e5.below (za.mono zb)); (try have zh := lm.lt); (try replace lm := lm.below (za.mono zb)); (try have zh := rs1.lt); (try replace rs1 := rs1.below (za.mono zb)); (try have zh := pc.lt); (try replace pc := pc.below (za.mono zb)); simp only [zn])
 (refine uK rfl _ _ rfl _ rfl _ _ _ rfl f6 (stK B (by omega) ?_); have f6o := f6; clear f6 B; intro wn f6 ze zf zg B; replace rs1 := rs1.chg f6o (by simp) ze; (try replace r2 := r2.of_eq (ze.block _ r2.lt (by omega))); (try replace r3 := r3.of_eq (ze.block _ r3.lt (by omega))); (try replace r4 := r4.of_eq (ze.block _ r4.lt (by omega))); (try replace e5 := e5.of_eq (ze.block _ e5.lt (by omega))); (try replace lm := lm.of_eq (ze.block _ lm.lt (by omega))); (try replace rs1 := rs1.of_eq (ze.block _ rs1.lt (by omega))); (try replace pc := pc.of_eq (ze.block _ pc.lt (by omega))); simp only [zn])
 refine wpList_nil ?_
 have k6 : b_e5 < b_f6 := by have := e5.lt; omega
 go_upto_region 4 with fail
 refine wp_region_lit ?_
 refine chk 2 ?_
 refine wpList_nil ?_
 go_upto_if 23 with fail
 go_cut [] from 22 (fun wx => ∃ (gf : FuncId) (lb : Array Value), AtB 114 wx b_f6 #[.func (.func gf) #[] lb] ∧ Hid (Go.Proofs.Enters Tryz.prog gf) ∧ Hid (∀ (W : World) (p q : Px) (n : Int), AtB 30 W b_r3 (stC (.slice (some ⟨g, o, none⟩) s.pts.length cd) s) → p.ok → (0 ≤ n ∧ n ≤ 255) → chP s p n = q → Calls Tryz.prog gf (#[.agg (pxE.enc p), .int .i64 n] ++ lb) W fun e w' => e = .returned (.agg (pxE.enc q)) ∧ Below W.heap.size W w') ∧ Below w.heap.size w wx ∧ AtB 64 wx b_r2 #[.slice a ls.length c] ∧ RS (.slice a ls.length c) ls wx ∧ AtB 30 wx b_r3 (stC (.slice (some ⟨g, o, none⟩) s.pts.length cd) s) ∧ AtB 64 wx b_r4 #[.slice none 0 0] ∧ AtB 53 wx b_e5 #[.int .i64 0] ∧ xf wx ∧ zI spE g o s.pts wx)
 case first =>
  cases hera : s.era with
  | true =>
   have HERA := Lib.hid hera; clear hera; go_upto_region 5 with fail
   refine wp_region_lit ?_
   (refine uK rfl _ _ rfl _ rfl _ _ _ rfl f6 (stK B (by omega) ?_); have f6o := f6; clear f6 B; intro wn f6 ze zf zg B; replace rs1 := rs1.chg f6o (by simp) ze; (try replace r2 := r2.of_eq (ze.block _ r2.lt (by omega))); (try replace r3 := r3.of_eq (ze.block _ r3.lt (by omega))); (try replace r4 := r4.of_eq (ze.block _ r4.lt (by omega))); (try replace e5 := e5.of_eq (ze.block _ e5.lt (by omega))); (try replace lm := lm.of_eq (ze.block _ lm.lt (by omega))); (try replace rs1 := rs1.of_eq (ze.block _ rs1.lt (by omega))); (try replace pc := pc.of_eq (ze.block _ pc.lt (by omega))); simp only [zn])
   refine wpList_nil ?_; go_wp2; go_meet; refine ⟨_, _, f6, Lib.hid (enters_of Tryz.func74 (by kernel_rfl) rfl), Lib.hid (fun W p q n h1 h2 h3 h4 => ?_), B, r2, rs1, r3, r4, e5, lm, pc⟩; exact Wf p q n W h3 h2 (by rw [← h4]; unfold chP; rw [HERA.out]; rfl)
  | false =>
   have HERA := Lib.hid hera; clear hera; go_wp2; go_meet; refine ⟨_, _, f6, Lib.hid (enters_of Tryz.func72 (by kernel_rfl) rfl), Lib.hid (fun W p q n h1 h2 h3 h4 => ?_), B, r2, rs1, r3, r4, e5, lm, pc⟩; exact We _ s p q n b_r3 W h1 h2 HCOL.out (by rw [← h4]; unfold chP; rw [HERA.out]; rfl)
 case rest =>
  clear B r2 rs1 r3 r4 e5 lm pc f6; obtain ⟨gf, lb, f6, HEN, HCH, B, r2, rs1, r3, r4, e5, lm, pc⟩ := hcut; obtain ⟨bv, hbv⟩ : ∃ b, ql ls = b := ⟨_, rfl⟩; have HBV := Lib.hid hbv; clear hbv; go_upto_region 6 with fail
  refine wp_region_lit ?_; refine chk 1 ?_
  refine clF (enters_of Tryz.func41 (by kernel_rfl) rfl) (c := Wo _ ls bv _ rs1 TK.out hn HBV.out) (h := ?_); rintro e wn ⟨rfl, za⟩; have zf := B.size; have zg := za.size; replace B := B.trans (za.mono B.size)
  (try replace f6 := f6.below za)
  (try replace r2 := r2.below za)
  (try replace r3 := r3.below za)
  (try replace r4 := r4.below za)
  (try replace e5 := e5.below za)
  (try replace lm := lm.below za)
  (try replace rs1 := rs1.below za)
  (try replace pc := pc.below za)
  refine ⟨_, rfl, ?_⟩; simp only [zn]; refine chk 1 ?_; refine wpList_nil ?_; go_upto_if 26 with fail
  go_cut [] from 22 (fun wx => ∃ (a0 : Option Addr) (c0 : Nat), AtB 114 wx b_f6 #[.func (.func gf) #[] lb] ∧ Below w.heap.size w wx ∧ AtB 64 wx b_r2 #[.slice a0 (qN ls).length c0] ∧ RS (.slice a0 (qN ls).length c0) (qN ls) wx ∧ AtB 30 wx b_r3 (stC (.slice (some ⟨g, o, none⟩) s.pts.length cd) s) ∧ AtB 64 wx b_r4 #[.slice none 0 0] ∧ AtB 53 wx b_e5 #[.int .i64 0] ∧ xf wx ∧ zI spE g o s.pts wx)
  case first =>
   cases bv with
   | true =>
    go_wp2; go_meet; rw [yt HBV.out]; exact ⟨_, _, f6, B, r2, rs1, r3, r4, e5, lm, pc⟩
   | false =>
    go_upto_region 7 with fail
    refine wp_region_lit ?_
    (refine qe rfl (.agg #[.slice none 0 0]) (by kernel_rfl) ?_; simp only [zn])
    (refine zr (t := 64) rfl _ _ rfl _ rfl _ rfl r2 (by kernel_rfl) rfl (by simp [Value.oneCell']) (stK B (by omega) ?_); clear r2 B; intro wn r2 ze zf zg B; (try replace f6 := f6.of_eq (ze.block _ f6.lt (by omega))); (try replace r3 := r3.of_eq (ze.block _ r3.lt (by omega))); (try replace r4 := r4.of_eq (ze.block _ r4.lt (by omega))); (try replace e5 := e5.of_eq (ze.block _ e5.lt (by omega))); (try replace lm := lm.of_eq (ze.block _ lm.lt (by omega))); (try replace pc := pc.of_eq (ze.block _ pc.lt (by omega))); simp only [zn])
    refine wpList_nil ?_; go_wp2; go_meet; have hfn : qN ls = [] := by unfold qN; rw [HBV.out]; rfl
    rw [hfn]; exact ⟨_, _, f6, B, r2, RS.nil _, r3, r4, e5, lm, pc⟩
  case rest =>
   clear B r2 rs1 r3 r4 e5 lm pc f6 HBV; obtain ⟨a0, c0, f6, B, r2, rs1, r3, r4, e5, lm, pc⟩ := hcut; have VF := Lib.hid (jQ ls); have TF := Lib.hid (yU TK.out); clear TK hn hc; obtain ⟨L0, hL0⟩ : ∃ l, qN ls = l := ⟨_, rfl⟩; rw [hL0] at r2 rs1 VF TF HFIN; clear hL0; have l6 := f6.lt; go_upto_region 8 with fail
   refine wp_region_lit ?_; refine chk 1 ?_
   refine clF (enters_of Tryz.func58 (by kernel_rfl) rfl) (c := Wz _ s _) (h := ?_); rintro e wn ⟨bw, rfl, hbw, r9, za⟩; have zf := B.size; have zg := za.size; replace B := B.trans (za.mono B.size)
   (try replace f6 := f6.below za)
   (try replace r2 := r2.below za)
   (try replace r3 := r3.below za)
   (try replace r4 := r4.below za)
   (try replace e5 := e5.below za)
   (try replace lm := lm.below za)
   (try replace rs1 := rs1.below za)
   (try replace pc := pc.below za)
   refine ⟨_, rfl, ?_⟩; simp only [zn]; refine wpList_nil ?_; have k7 : b_f6 < bw := by omega
   have k8 := r9.lt; obtain ⟨w1, hw1⟩ : ∃ w1, w1 = wn := ⟨_, rfl⟩; rw [← hw1] at B r2 rs1 r3 r4 e5 lm pc f6 r9 k8 ⊢; clear hw1; have hszB := B.size; go_wp2; refine (wpIn_wide (n := 3)).1 ?_; refine Q8 (F := Fence.wide) rfl (by omega) (gf := 109) (lb := #[.pointer (some ⟨bw, 0, none⟩)]) rfl trivial (enters_of Tryz.func109 (by kernel_rfl) rfl) (ZQ s HVS.out g o cd bw b_r2 w1.heap.size _ (by omega) _ r9 hcd pc (by omega) (by omega) (by omega) (by omega) (Nat.le_refl _)) (fun h k => KpW.trans h k) (fun W l o o' hl ho hc _ => KpW.putObj W l o o' hl ho hc) (fun A B h => KpW.below h) (Below.refl _ _) (fun _ => rfl)
    (fun pre W => ∃ (a1 : Option Addr) (c1 : Nat) (M : List TA), Hid (xr s (pre.map (fun i => jz s i.val)) L0 = (M, 0)) ∧ AtB 64 W b_r2 #[.slice a1 M.length c1] ∧ RS (.slice a1 M.length c1) M W ∧ AtB 30 W b_r3 (stC (.slice (some ⟨g, o, none⟩) s.pts.length cd) s) ∧ AtB 64 W b_r4 #[.slice none 0 0] ∧ AtB 53 W b_e5 #[.int .i64 0] ∧ AtB 114 W b_f6 #[.func (.func gf) #[] lb] ∧ xf W ∧ Below w.heap.size w W)
    (fun pre W => ∃ (E : Int), Hid ((xr s (pre.map (fun i => jz s i.val)) L0).2 = E ∧ E ≠ 0) ∧ AtB 64 W b_r4 #[.slice none 0 0] ∧ AtB 53 W b_e5 #[.int .i64 E] ∧ Below w.heap.size w W)
    (fun pre W W' row hI hg hr => ?own) (fun pre W W' row hI hg hr => ?ownX)
    ⟨a0, c0, L0, Lib.hid rfl, r2, rs1, r3, r4, e5, f6, lm, B⟩
    (fun x a' W => ∃ b7 : Nat, a'.defers = [] ∧ a'.tmps.size = 99 ∧ a'.tmps.getD 2 undef = .pointer (some ⟨b_r2, 0, none⟩) ∧ a'.tmps.getD 3 undef = .pointer (some ⟨b_r3, 0, none⟩) ∧ a'.tmps.getD 4 undef = .pointer (some ⟨b_r4, 0, none⟩) ∧ a'.tmps.getD 5 undef = .pointer (some ⟨b_e5, 0, none⟩) ∧ a'.tmps.getD 6 undef = .pointer (some ⟨b_f6, 0, none⟩) ∧ a'.tmps.getD 7 undef = .pointer (some ⟨b7, 0, none⟩) ∧ AtB 45 W b7 (dbE.enc (jz s x.val)) ∧ b_f6 < b7)
    (fun x a' W W' row hA hg hr => ?own2) ?assign ?body ?done ?stop
   case own =>
    obtain ⟨a1, c1, M, h0, h1, h2, h3, h4, h5, h6, h7, h8⟩ := hI; have hne : ∀ b, b < w1.heap.size → row ≠ some b := fun b hb e => by have := (hr _ e).1; omega
    refine ⟨a1, c1, M, h0, h1.grown hg (hne _ (by omega)), h2.own3 hg (fun r e => ?_), h3.grown hg (hne _ (by omega)), h4.grown hg (hne _ (by omega)), h5.grown hg (hne _ (by omega)), h6.grown hg (hne _ (by omega)), h7.of_eq (hg.block _ h7.lt (fun e => hne _ (by omega) e.symm)), yR h8 h8.size hg (fun r e => Nat.le_trans hszB (hr r e).1)⟩; rcases (hr r e).2 with h | ⟨_, h⟩
    ·exact .inl h
    ·exact .inr h
   case ownX =>
    obtain ⟨E, h0, h4, h5, h8⟩ := hI; have hne : ∀ b, b < w1.heap.size → row ≠ some b := fun b hb e => by have := (hr _ e).1; omega
    exact ⟨E, h0, h4.grown hg (hne _ (by omega)), h5.grown hg (hne _ (by omega)), yR h8 h8.size hg (fun r e => Nat.le_trans hszB (hr r e).1)⟩
   case own2 =>
    obtain ⟨b7, e1, e2, e3, e4, e5', e6, e7, e8, h1, h2⟩ := hA; exact ⟨b7, e1, e2, e3, e4, e5', e6, e7, e8, h1.own hg (fun r e => (hr r e).2), h2⟩
   case assign =>
    intro l pre x W K ⟨_, _, _, _, _, _, _, _, _, hl6, _⟩ hbig hK; have B := Below.refl W.heap.size W; have hl := hl6.lt; obtain ⟨D, hD⟩ : ∃ p, jz s x.val = p := ⟨_, rfl⟩; rw [hD] at hK; rw [hD]
    dsimp only
    refine Js ?_; simp only [List.setIfInBounds_toArray, List.set_cons_succ, List.set_cons_zero]; refine zz (by kernel_rfl) ?_
    (refine zu (t := 45) rfl _ (xD _ _ rfl) (alK B ?_); clear B; intro b_d7 wn zb zd d7 za zf zk B; simp only [zn])
    (refine zr (t := 45) rfl _ _ rfl _ rfl _ rfl d7 (by kernel_rfl) rfl (by simp [dbE, Value.oneCell']) (stK B (by omega) ?_); clear d7 B; intro wn d7 ze zf zg B; simp only [zn])
    refine wpList_nil ?_; refine qh.at ?_; refine hK _ _ B ⟨_, rfl, rfl, rfl, rfl, rfl, rfl, rfl, rfl, d7, by omega⟩
   case stop =>
    rintro D pre W hD ⟨k, rfl⟩ ⟨E, HE, r4, e5, BW⟩ hDD; have kd : xW W D := hDD; have hE := Vg s k L0 HE.out.1 HE.out.2; rw [← HFIN.out] at hE; have HEQ := Lib.hid hE; clear hE; have BF := BW.trans (belowK_b (w := w) (Nat.le_refl _) W D _ (.deferred none) (by omega) kd rfl rfl); refine ⟨by simp, .inl ⟨_, _, rfl, run_takeDeferred kd, ?_⟩⟩; refine ⟨_, jV (t := 64) (u := 53) rfl _ _ b_r4 b_e5 rfl rfl ((World.putObj_heap_other (fun e => kd.ne r4 (by omega))).trans r4) (jD ((World.putObj_heap_other (fun e => kd.ne e5 (by omega))).trans e5)) Tryz.isAgg64 (by kernel_rfl), ?_⟩; rw [HEQ.out]; exact ⟨none, 0, rfl, RS.nil _, BF⟩
   case done =>
    rintro D xs W hD rfl ⟨a1, c1, M, HM, r2, rs1, r3, r4, e5, f6, lm, BW⟩ hDD; have kd : xW W D := hDD; have hM := HM.out; rw [Zo] at hM; have hval := (vZ HCOL.out (jP s) VF.out TF.out).1; rw [hM] at hval; rw [← HFIN.out] at hM; have hMn := (xl.1 hval).1
    dsimp only at hMn
    have HEQ := Lib.hid hM; have B := BW; have hwD : w.heap.size ≤ D := by omega
    have hne := kd.ne r4; have hne5 := kd.ne e5; clear BW r3 f6 lm hD hval hM; go_upto_region 28 with fail
    refine wp_region_lit ?_; refine chk 2 ?_
    refine clF (enters_of Tryz.func78 (by kernel_rfl) rfl) (c := xu _ M _ rs1 (by omega)) (h := ?_); rintro e wn ⟨v2, b2, rfl, _, _, od2, za⟩; have zf := B.size; have zg := za.size; replace B := B.trans (za.mono B.size)
    (try replace r2 := r2.below za)
    (try replace r4 := r4.below za)
    (try replace e5 := e5.below za)
    (try replace kd := kd.below za)
    have rs2 := od2.rs; clear od2; obtain ⟨a2, c2, rfl, hc2⟩ := rs2.len; refine ⟨_, rfl, ?_⟩; simp only [zn]; refine chk 1 ?_
    (refine zr (t := 64) rfl _ _ rfl _ rfl _ rfl r4 (by kernel_rfl) rfl (by simp [Value.oneCell']) (stK B (by omega) ?_); have r4o := r4; clear r4 B; intro wn r4 ze zf zg B; (try replace rs2 := rs2.chg r4o (by simp) ze); (try replace r2 := r2.of_eq (ze.block _ r2.lt (by omega))); (try replace e5 := e5.of_eq (ze.block _ e5.lt (by omega))); (try replace kd := kd.of_eq (ze.block _ kd.lt (by omega))); simp only [zn])
    (refine vj rfl _ _ rfl _ rfl _ rfl e5 (stK B (by omega) ?_); have e5o := e5; clear e5 B; intro wn e5 ze zf zg B; replace rs2 := rs2.chg e5o (by simp) ze; (try replace r2 := r2.of_eq (ze.block _ r2.lt (by omega))); (try replace r4 := r4.of_eq (ze.block _ r4.lt (by omega))); (try replace kd := kd.of_eq (ze.block _ kd.lt (by omega))); simp only [zn])
    refine wpList_nil ?_; go_wp2; refine ⟨by simp, .inl ⟨_, _, rfl, run_takeDeferred kd, ?_⟩⟩; refine ⟨_, jV (t := 64) (u := 53) rfl _ _ b_r4 b_e5 rfl rfl ((World.putObj_heap_other (fun e => hne (by omega))).trans r4) (jD ((World.putObj_heap_other (fun e => hne5 (by omega))).trans e5)) Tryz.isAgg64 (by kernel_rfl), ?_⟩; have BF := B.trans (belowK_b (w := w) (Nat.le_refl _) wn D _ (.deferred none) hwD kd rfl rfl); rw [HEQ.out]; exact ⟨_, _, rfl, rs2.own (grownBy_putObj' _ _ _) (fun r e => by cases e; exact ⟨_, kd, rfl⟩), BF⟩
   case body =>
    rintro l pre x W ⟨tm, df⟩ ⟨a1, c1, M, HM, r2, rs1, r3, r4, e5, f6, lm, BW⟩ ⟨b7, e1, e2, e3, e4, e5', e6, e7, e8, p7, k10⟩ hpre; obtain ⟨U, hU, hUi⟩ := X9 tm 99 e2
    dsimp only at e3 e4 e5' e6 e7 e8
    rw [← hUi] at e3 e4 e5' e6 e7 e8; have eL : ((List.range 99).map U).toArray = #[U 0, U 1, U 2, U 3, U 4, U 5, U 6, U 7, U 8, U 9, U 10, U 11, U 12, U 13, U 14, U 15, U 16, U 17, U 18, U 19, U 20, U 21, U 22, U 23, U 24, U 25, U 26, U 27, U 28, U 29, U 30, U 31, U 32, U 33, U 34, U 35, U 36, U 37, U 38, U 39, U 40, U 41, U 42, U 43, U 44, U 45, U 46, U 47, U 48, U 49, U 50, U 51, U 52, U 53, U 54, U 55, U 56, U 57, U 58, U 59, U 60, U 61, U 62, U 63, U 64, U 65, U 66, U 67, U 68, U 69, U 70, U 71, U 72, U 73, U 74, U 75, U 76, U 77, U 78, U 79, U 80, U 81, U 82, U 83, U 84, U 85, U 86, U 87, U 88, U 89, U 90, U 91, U 92, U 93, U 94, U 95, U 96, U 97, U 98] := rfl; rw [eL] at hU; rw [e3, e4, e5', e6, e7, e8] at hU; subst hU; have e1 : df = [] := e1; subst e1; clear e2 e3 e4 e5' e6 e7 e8 hUi eL; have hval := vZ HCOL.out (pre.map (fun i => jz s i.val)) VF.out TF.out; have HST0 : xr s ((pre ++ [x]).map (fun i => jz s i.val)) L0 = jM s (M, 0) (jz s x.val) := by
     rw [List.map_append]; show xr s (pre.map (fun i => jz s i.val) ++ [jz s x.val]) L0 = _
     rw [Vf, HM.out]
    rw [HM.out] at hval; have VM := Lib.hid hval.1; have TM := Lib.hid hval.2; have hMn := (xl.1 hval.1).1
    dsimp only at hMn
    have OKD := Lib.hid (Y7 HVS.out x.isLt)
    generalize hD : jz s x.val = D at *
    obtain ⟨o1, o2, o3, o4, o5, o6⟩ := OKD.out; have HST := Lib.hid HST0; clear hD HST0 hval HM; obtain ⟨qs, hqs⟩ : ∃ q, yG D = q := ⟨_, rfl⟩; obtain ⟨c, hcc⟩ : ∃ q, sqC D = q := ⟨_, rfl⟩; have HQS := Lib.hid hqs; have HC0 := Lib.hid hcc; have HC := Lib.hid (show xB qs ui = c from by rw [← hqs, ← hcc]; rfl)
    clear hqs hcc; have R2W := Lib.hid r2; have RS1W := Lib.hid rs1; have R4W := Lib.hid r4; have E5W := Lib.hid e5; have LMW := Lib.hid lm; have BWW := Lib.hid BW; have hws := BW.size; have l2 := r2.lt; have l3 := r3.lt; have l4 := r4.lt; have l5 := e5.lt; have l6 := f6.lt; have l7 := p7.lt; have l0 := lm.lt; have B := Below.refl W.heap.size W; clear rs1 r4 e5 BW; gi_upto_region 10 with fail
    try have lx_r2 := r2.lt
    try have lx_r3 := r3.lt
    try have lx_f6 := f6.lt
    try have lx_lm := lm.lt
    try have lx_p7 := p7.lt
    refine Xu (by kernel_rfl) 5 [(1, zC ?v1_1), (3, zC ?v1_3), (4, zej (W.heap.size) 38 #[.int .i64 0, .int .i64 0, .int .i64 0, .int .i64 0])] (by kernel_rfl) (by kernel_rfl) (by kernel_rfl) ?_
    rotate_left 2
    simp only [jm, Nat.reduceAdd]; refine crk 1 ?_
    refine zy (by rfl) (by first | rfl | simp [Region.wanted, yielded]) ?_ ?_
    ·intro wn za hE Kx hKx
     have zf := B.size; have zg := za.size; replace B := B.trans (za.mono B.size)
     (try replace r2 := r2.below za)
     (try replace r3 := r3.below za)
     (try replace f6 := f6.below za)
     (try replace lm := lm.below za)
     (try replace p7 := p7.below za)
     refine zB rfl (enters_of Tryz.func62 (by kernel_rfl) rfl) (by simp only [Act.eval, z6]; rfl) ?_
     refine (xY D qs wn (by omega) (by omega) (by omega) HQS.out).mono ?_; rintro e wm ⟨rfl, zl⟩; refine ⟨_, rfl, ?_⟩; have hz := hKx () wm trivial zl
     dsimp only [zC] at hz
     exact hz
    rintro ⟨⟩
    dsimp only [zC]
    simp only [zn]; refine crq 1 ?_; repeat (first | go_big_quiet_skip | (go_big_quiet_want; first | ((first | refine zo (t := 38) rfl _ _ _ rfl (fun w hw => w9 (zaA lm w hw)) (by first | rfl | omega) ?_ | refine qB ?_ | refine qC ?_); simp only [zn]; go_big_quiet_on) | (go_big_quiet_op; go_big_quiet_on)))
    refine wpQuiet_nil ?_; refine zy (by rfl) (by first | rfl | simp [Region.wanted, yielded]) ?_ ?_
    ·intro wn za hE Kx hKx
     have zf := B.size; have zg := za.size; replace B := B.trans (za.mono B.size)
     (try replace r2 := r2.below za)
     (try replace r3 := r3.below za)
     (try replace f6 := f6.below za)
     (try replace lm := lm.below za)
     (try replace p7 := p7.below za)
     refine zB rfl (enters_of Tryz.func46 (by kernel_rfl) rfl) (by simp only [Act.eval, z6]; rfl) ?_
     refine (JC qs ui c wn HC.out).mono ?_; rintro e wm ⟨rfl, zl⟩; refine ⟨_, rfl, ?_⟩; have hz := hKx () wm trivial zl
     dsimp only [zC] at hz
     exact hz
    rintro ⟨⟩
    dsimp only [zC]
    simp only [zn]; refine zy (by rfl) (by first | rfl | simp [Region.wanted, yielded]) ?_ ?_
    ·intro wn za hE Kx hKx
     have zf := B.size; have zg := za.size; replace B := B.trans (za.mono B.size)
     (try replace r2 := r2.below za)
     (try replace r3 := r3.below za)
     (try replace f6 := f6.below za)
     (try replace lm := lm.below za)
     (try replace p7 := p7.below za)
     refine zM (t := 38) _ (zF _ _ rfl) ?_; intro b wm h1 h2 ht zl zm; exact hKx b wm ⟨Nat.le_trans za.size h1, ht⟩ (zl.mono h1)
    rintro b_c8
    dsimp only [zC, zej]
    simp only [zn]; refine zW ?_; intro wn za hE; have zf := B.size; have zg := za.size; replace B := B.trans (za.mono B.size)
    (try replace r2 := r2.below za)
    (try replace r3 := r3.below za)
    (try replace f6 := f6.below za)
    (try replace lm := lm.below za)
    (try replace p7 := p7.below za)
    obtain ⟨hge_c8, c8⟩ : _ ∧ AtB _ _ _ _ := hE 4; clear hE; try simp only [List.drop_succ_cons, List.drop_zero]
    (refine zr (t := 38) rfl _ _ rfl _ rfl _ rfl c8 (by kernel_rfl) rfl (by simp [rcA, Value.oneCell']) (stK B (by omega) ?_); clear c8 B; intro wn c8 ze zf zg B; (try replace r2 := r2.of_eq (ze.block _ r2.lt (by omega))); (try replace r3 := r3.of_eq (ze.block _ r3.lt (by omega))); (try replace f6 := f6.of_eq (ze.block _ f6.lt (by omega))); (try replace lm := lm.of_eq (ze.block _ lm.lt (by omega))); (try replace p7 := p7.of_eq (ze.block _ p7.lt (by omega))); simp only [zn])
    refine wpList_nil ?_; refine zK.normal ?_; refine qh.at ?_; try dsimp only
    replace c8 : AtB 38 _ b_c8 (rcA c) := c8; have k11 : W.heap.size ≤ b_c8 := by omega
    by_cases hr1 : D.r < 1
    ·have q1 : decide (D.r < 1) = true := decide_eq_true hr1
     gi_upto_region 11 with fail
     refine zz (by kernel_rfl) ?_; refine chk 5 ?_
     refine qG ?hs11_5 ?_
     case hs11_5 => kernel_rfl
     simp only [zn]; refine chk 1 ?_; refine wpList_nil ?_; refine qh.at ?_; try dsimp only
     gi_wp2
     refine ⟨KeepsOthers.below B, KpW.below B, a1, c1, M, Lib.hid ?_, r2, RS1W.out.below B, r3, R4W.out.of_eq (B.block _ l4), E5W.out.of_eq (B.block _ l5), f6, lm, BWW.out.trans (B.mono hws)⟩; rw [HST.out]; exact vt s _ (by unfold skD; rw [q1]; rfl)
    ·have q1 : decide (D.r < 1) = false := decide_eq_false hr1
     cases hem : zP c with
     | true =>
      have HEM := Lib.hid hem; clear hem; gi_upto_region 11 with fail
      refine zz (by kernel_rfl) ?_; refine chk 5 ?_
      refine clF (enters_of Tryz.func45 (by kernel_rfl) rfl) (c := u6 c true _ HEM.out) (h := ?_); rintro e wn ⟨rfl, za⟩; have zf := B.size; have zg := za.size; replace B := B.trans (za.mono B.size)
      (try replace r2 := r2.below za)
      (try replace r3 := r3.below za)
      (try replace f6 := f6.below za)
      (try replace lm := lm.below za)
      (try replace p7 := p7.below za)
      (try replace c8 := c8.below za)
      refine ⟨_, rfl, ?_⟩; simp only [zn]; refine chk 1 ?_; refine wpList_nil ?_; refine qh.at ?_; try dsimp only
      gi_wp2
      refine ⟨KeepsOthers.below B, KpW.below B, a1, c1, M, Lib.hid ?_, r2, RS1W.out.below B, r3, R4W.out.of_eq (B.block _ l4), E5W.out.of_eq (B.block _ l5), f6, lm, BWW.out.trans (B.mono hws)⟩; rw [HST.out]; exact vt s _ (by unfold skD; rw [HC0.out, HEM.out]; simp)
     | false =>
      have HSK : skD D = false := by unfold skD; rw [HC0.out, hem, q1]; rfl
      have HEM := Lib.hid hem; clear hem; obtain ⟨HE1, HF1⟩ := Jl OKD.out HSK; rw [HC0.out] at HE1 HF1; have HST2 : xr s ((pre ++ [x]).map (fun i => jz s i.val)) L0 = (y4 c (kL s D M) M, wS c (kL s D M) M) := by rw [HST.out, QZ s HSK, HC0.out]
      have HIL : kL s D M = yx c (fun x y => Q0 s (kH D x y) (xq M x y)) := by unfold kL; rw [HC0.out]
      have okI : OkL (kL s D M) := Ke HCOL.out D TM.out; have hIn : (kL s D M).length = areaN c := by rw [Zt, HC0.out]
      have HE0 := Lib.hid HE1; have HFit := Lib.hid HF1; have HA := Lib.hid (uV HF1); have HAW := Lib.hid (xy HF1).1; obtain ⟨f1, f2, f3, f4, f5, f6', f7, f8⟩ := HF1; have hwid : (widN c : Int) = c.x1 - c.x0 := by unfold widN; omega
      obtain ⟨Wd, hWd⟩ : ∃ n, widN c = n := ⟨_, rfl⟩; rw [hWd] at hwid; have HWD := Lib.hid hWd; clear hWd HE1; obtain ⟨I, hI⟩ : ∃ l, kL s D M = l := ⟨_, rfl⟩; rw [hI] at HST2 HIL okI hIn; have HS2 := Lib.hid HST2; have HI := Lib.hid HIL; have OKI := Lib.hid okI; clear HST2 HIL okI hI HSK HST; obtain ⟨R', hR'⟩ : ∃ l, y4 c I M = l := ⟨_, rfl⟩; obtain ⟨E, hE⟩ : ∃ e, wS c I M = e := ⟨_, rfl⟩; have HR' := Lib.hid hR'; have HEe := Lib.hid hE; clear hR' hE; gi_upto_region 11 with fail
      refine zz (by kernel_rfl) ?_; refine chk 5 ?_
      refine clF (enters_of Tryz.func45 (by kernel_rfl) rfl) (c := u6 c false _ HEM.out) (h := ?_); rintro e wn ⟨rfl, za⟩; have zf := B.size; have zg := za.size; replace B := B.trans (za.mono B.size)
      (try replace r2 := r2.below za)
      (try replace r3 := r3.below za)
      (try replace f6 := f6.below za)
      (try replace lm := lm.below za)
      (try replace p7 := p7.below za)
      (try replace c8 := c8.below za)
      refine ⟨_, rfl, ?_⟩; simp only [zn]; refine chk 1 ?_; refine wpList_nil ?_; refine qh.at ?_; try dsimp only
      have rs1 := RS1W.out.below B; have hc8 := c8.lt; have hszW := B.size; gi_upto_region 12 with fail
      refine zz (by kernel_rfl) ?_; refine chk 2 ?_
      refine clF (enters_of Tryz.func76 (by kernel_rfl) rfl) (c := JA _ M c _ rs1 TM.out VM.out HE0.out) (h := ?_); rintro e wn ⟨cb, hcb, rfl, row, za⟩; have zf := B.size; have zg := za.size; replace B := B.trans (za.mono B.size)
      (try replace r2 := r2.below za)
      (try replace r3 := r3.below za)
      (try replace f6 := f6.below za)
      (try replace lm := lm.below za)
      (try replace p7 := p7.below za)
      (try replace c8 := c8.below za)
      (try replace row := row.below za)
      have kcb : W.heap.size ≤ cb := by omega
      have kc8 : @LT.lt Nat _ b_c8 cb := by omega
      clear rs1; refine ⟨_, rfl, ?_⟩; simp only [zn]; refine chk 3 ?_
      (have _ := row.lt; refine zu (t := 117) rfl _ (xE _ _ rfl) (alK B ?_); clear B; intro b_i9 wn zb zd i9 za zf zk B; (try have zh := r2.lt); (try replace r2 := r2.below (za.mono zb)); (try have zh := r3.lt); (try replace r3 := r3.below (za.mono zb)); (try have zh := f6.lt); (try replace f6 := f6.below (za.mono zb)); (try have zh := lm.lt); (try replace lm := lm.below (za.mono zb)); (try have zh := p7.lt); (try replace p7 := p7.below (za.mono zb)); (try have zh := c8.lt); (try replace c8 := c8.below (za.mono zb)); (try have zh := row.lt); (try replace row := row.below (za.mono zb)); simp only [zn])
      (refine zr (t := 117) rfl _ _ rfl _ rfl _ rfl i9 (by kernel_rfl) rfl (by simp [jS, Value.oneCell']) (stK B (by omega) ?_); clear i9 B; intro wn i9 ze zf zg B; (try replace r2 := r2.of_eq (ze.block _ r2.lt (by omega))); (try replace r3 := r3.of_eq (ze.block _ r3.lt (by omega))); (try replace f6 := f6.of_eq (ze.block _ f6.lt (by omega))); (try replace lm := lm.of_eq (ze.block _ lm.lt (by omega))); (try replace p7 := p7.of_eq (ze.block _ p7.lt (by omega))); (try replace c8 := c8.of_eq (ze.block _ c8.lt (by omega))); (try replace row := row.of_eq (ze.block _ row.lt (by omega))); simp only [zn])
      refine chk 1 ?_; refine wpList_nil ?_; refine qh.at ?_; try dsimp only
      replace i9 : AtB 117 _ b_i9 (jS c (.slice (some ⟨cb, 0, none⟩) (areaN c) (areaN c))) := i9; have kci : b_i9 ≠ cb := by omega
      clear lm r2; gi_upto_region 13 with fail
      refine zz (by kernel_rfl) ?_; refine chk 1 ?_; refine wpList_nil ?_; refine qh.at ?_; try dsimp only
      gi_upto_region 14 with fail
      refine zz (by kernel_rfl) ?_; refine chk 3 ?_
      refine wpList_nil ?_; refine qh.at ?_; try dsimp only
      gi_wp2
      gi_loopw [11, 12, 13, 14] (fun kv yv _ _ wr => ∃ (i k : Nat) (R : List Px), (i : Int) ≤ c.y1 - c.y0 ∧ Hid (k = i * Wd) ∧ kv = .int .i64 (k : Int) ∧ yv = .int .i64 (c.y0 + (i : Int)) ∧ Hid (yL c (fun x y => Q0 s (kH D x y) (xq M x y)) (fun x y => xq M x y) k = R) ∧ Below W.heap.size W wr ∧ AtB 45 wr b7 (dbE.enc D) ∧ AtB 38 wr b_c8 (rcA c) ∧ AtB 117 wr b_i9 (jS c (.slice (some ⟨cb, 0, none⟩) (areaN c) (areaN c))) ∧ AtB 114 wr b_f6 #[.func (.func gf) #[] lb] ∧ AtB 30 wr b_r3 (stC (.slice (some ⟨g, o, none⟩) s.pts.length cd) s) ∧ qW pxE wr cb R) (fun _ yv _ _ _ => (c.y1 - intOf yv).toNat)
      case atStart => exact ⟨0, 0, _, by omega, Lib.hid (by rw [Nat.zero_mul]), rfl, by rw [Int.natCast_zero, Int.add_zero], Lib.hid (Vi c M _), B, p7, c8, i9, f6, r3, row⟩
      case round =>
       clear B p7 c8 i9 f6 r3 row; obtain ⟨i, k, R, hi, HK, rfl, rfl, HR, B, p7, c8, i9, f6, r3, row⟩ := hrel; by_cases hi1 : (i : Int) < c.y1 - c.y0
       ·have q2 : decide (c.y0 + (i : Int) < c.y1) = true := decide_eq_true (by omega)
        gi_upto_region 15 with fail
        refine zz (by kernel_rfl) ?_; refine chk 4 ?_
        refine wpList_nil ?_; refine qh.at ?_; try dsimp only
        gi_upto_region 17 with fail
        refine zz (by kernel_rfl) ?_; refine chk 3 ?_
        refine wpList_nil ?_; refine qh.at ?_; try dsimp only
        gi_wp2
        gi_loopw [11, 13, 14] (fun kv xv _ wr => ∃ (j k : Nat) (R : List Px), (j : Int) ≤ c.x1 - c.x0 ∧ Hid (k = i * Wd + j) ∧ kv = .int .i64 (k : Int) ∧ xv = .int .i64 (c.x0 + (j : Int)) ∧ Hid (yL c (fun x y => Q0 s (kH D x y) (xq M x y)) (fun x y => xq M x y) k = R) ∧ Below W.heap.size W wr ∧ AtB 45 wr b7 (dbE.enc D) ∧ AtB 38 wr b_c8 (rcA c) ∧ AtB 117 wr b_i9 (jS c (.slice (some ⟨cb, 0, none⟩) (areaN c) (areaN c))) ∧ AtB 114 wr b_f6 #[.func (.func gf) #[] lb] ∧ AtB 30 wr b_r3 (stC (.slice (some ⟨g, o, none⟩) s.pts.length cd) s) ∧ qW pxE wr cb R) (fun _ xv _ _ => (c.x1 - intOf xv).toNat)
        case atStart => exact ⟨0, k, R, by omega, Lib.hid (by rw [Nat.add_zero]; exact HK.out), rfl, by rw [Int.natCast_zero, Int.add_zero], HR, B, p7, c8, i9, f6, r3, row⟩
        case round =>
         clear B p7 c8 i9 f6 r3 row HR HK; obtain ⟨j, k, R, hj, HK, rfl, rfl, HR, B, p7, c8, i9, f6, r3, row⟩ := hrel; by_cases hj1 : (j : Int) < c.x1 - c.x0
         ·have q3 : decide (c.x0 + (j : Int) < c.x1) = true := decide_eq_true (by omega)
          have hat := zan HFit.out (fun x y => Q0 s (kH D x y) (xq M x y)) (fun x y => xq M x y) (i := i) (j := j) hj1 hi1; rw [HWD.out] at hat; simp only [← Nat.add_assoc, ← HK.out] at hat; obtain ⟨hka, hp, hset, hsame⟩ := hat; have okp : (xq M (c.x0 + (j : Int)) (c.y0 + (i : Int))).ok := y7 TM.out _ _ _ (by omega); obtain ⟨p, hpe⟩ : ∃ p, xq M (c.x0 + (j : Int)) (c.y0 + (i : Int)) = p := ⟨_, rfl⟩; obtain ⟨n, hn⟩ : ∃ n, kH D (c.x0 + (j : Int)) (c.y0 + (i : Int)) = n := ⟨_, rfl⟩; have hnb := zbL D (c.x0 + (j : Int)) (c.y0 + (i : Int)); rw [hpe] at hp hset hsame okp; rw [hn] at hset hsame hnb; rw [HR.out] at hp hset hsame; have HN := Lib.hid hn; have OKP := Lib.hid okp; have hRl : R.length = areaN c := by rw [← HR.out]; exact zak _ _ _ _
          have hA2 := HA.out; have hkR : k < R.length := by omega
          have HP := Lib.hid hp; clear hn hpe okp hp; gi_upto_region 18 with fail
          refine zz (by kernel_rfl) ?_; refine chk 4 ?_
          refine wpList_nil ?_; refine qh.at ?_; try dsimp only
          gi_upto_region 20 with fail
          refine zz (by kernel_rfl) ?_; refine chk 3 ?_
          refine clF (enters_of Tryz.func24 (by kernel_rfl) rfl) (c := YK D (c.x0 + (j : Int)) (c.y0 + (i : Int)) n _ (by omega) (by omega) (by omega) HN.out) (h := ?_); rintro e wn ⟨rfl, za⟩; have zf := B.size; have zg := za.size; replace B := B.trans (za.mono B.size)
          (try replace p7 := p7.below za)
          (try replace c8 := c8.below za)
          (try replace i9 := i9.below za)
          (try replace f6 := f6.below za)
          (try replace r3 := r3.below za)
          (try replace row := row.below za)
          refine ⟨_, rfl, ?_⟩; simp only [zn]; refine chk 1 ?_; refine wpList_nil ?_; refine qh.at ?_; try dsimp only
          by_cases hn0 : 0 < n
          ·have q4 : decide (0 < n) = true := decide_eq_true hn0
           have q4' : decide (n > 0) = true := decide_eq_true hn0; obtain ⟨q, hq⟩ : ∃ q, chP s p n = q := ⟨_, rfl⟩; rw [Kf, if_pos hn0, hq] at hset; have HQ := Lib.hid hq; have HSET := Lib.hid hset; clear hq hset hsame; gi_upto_region 21 with fail
           refine zz (by kernel_rfl) ?_; refine chk 2 ?_; refine wpList_nil ?_; refine qh.at ?_; try dsimp only
           have rc := row.cells; have q5 : decide ((k : Int) < (areaN c : Int)) = true := decide_eq_true (by omega); have q6 : decide (k < areaN c) = true := decide_eq_true hka; gi_upto_region 22 with fail
           try have lx_p7 := p7.lt
           try have lx_c8 := c8.lt
           try have lx_i9 := i9.lt
           try have lx_f6 := f6.lt
           try have lx_r3 := r3.lt
           try have lx_row := row.lt
           try have lx_rc := rc.lt
           refine Xu (by kernel_rfl) 12 [(10, zC ?v2_10)] (by kernel_rfl) (by kernel_rfl) (by kernel_rfl) ?_
           rotate_left 1
           simp only [jm, Nat.reduceAdd]; refine crq 10 ?_; repeat (first | go_big_quiet_skip | (go_big_quiet_want; first | ((first | refine zo (t := 115) rfl _ _ _ rfl (fun w hw => jE (vX (zH i9 w hw))) (by first | rfl | omega) ?_ | refine zo (t := 114) rfl _ _ _ rfl (fun w hw => XC (zH f6 w hw)) (by rfl) ?_ | refine zo (t := 28) rfl _ _ _ rfl (fun w hw => (qz rc w hw).load Tryz.isAgg28 HP.out) (by first | rfl | omega) ?_ | refine qB ?_ | refine qC ?_); simp only [zn]; go_big_quiet_on) | (go_big_quiet_op; go_big_quiet_on)))
           refine wpQuiet_nil ?_; refine zy (by rfl) (by first | rfl | simp [Region.wanted, yielded]) ?_ ?_
           ·intro wn za hE Kx hKx
            have zf := B.size; have zg := za.size; replace B := B.trans (za.mono B.size)
            (try replace p7 := p7.below za)
            (try replace c8 := c8.below za)
            (try replace i9 := i9.below za)
            (try replace f6 := f6.below za)
            (try replace r3 := r3.below za)
            (try replace row := row.below za)
            (try replace rc := rc.below za)
            refine XV rfl (by simp only [Act.eval, z6]; rfl) HEN.out (by simp only [Act.eval, z6]; rfl) ?_
            refine (HCH.out wn p q n r3 OKP.out hnb HQ.out).mono ?_; rintro e wm ⟨rfl, zl⟩; refine ⟨_, rfl, ?_⟩; have hz := hKx () wm trivial zl
            dsimp only [zC] at hz
            exact hz
           rintro ⟨⟩
           dsimp only [zC]
           simp only [zn]; refine crk 1 ?_; refine zW ?_; intro wn za hE; have zf := B.size; have zg := za.size; replace B := B.trans (za.mono B.size)
           (try replace p7 := p7.below za)
           (try replace c8 := c8.below za)
           (try replace i9 := i9.below za)
           (try replace f6 := f6.below za)
           (try replace r3 := r3.below za)
           (try replace row := row.below za)
           (try replace rc := rc.below za)
           clear hE; try simp only [List.drop_succ_cons, List.drop_zero]
           clear rc
           (refine kG rfl _ _ rfl _ _ rfl q rfl row k hkR (by first | rfl | omega) (stK B (by omega) ?_); clear row B; intro wn row ze zf zg B; (try replace p7 := p7.of_eq (ze.block _ p7.lt (by omega))); (try replace c8 := c8.of_eq (ze.block _ c8.lt (by omega))); (try replace i9 := i9.of_eq (ze.block _ i9.lt (by omega))); (try replace f6 := f6.of_eq (ze.block _ f6.lt (by omega))); (try replace r3 := r3.of_eq (ze.block _ r3.lt (by omega))); simp only [zn])
           refine wpList_nil ?_; refine zK.normal ?_; refine qh.at ?_; try dsimp only
           rw [HSET.out] at row; gi_upto_region 23 with fail
           refine zz (by kernel_rfl) ?_; refine chk 3 ?_; refine wpList_nil ?_; refine qh.at ?_; try dsimp only
           gi_upto_region 19 with fail
           refine zz (by kernel_rfl) ?_; refine chk 3 ?_; refine wpList_nil ?_; refine qh.at ?_; try dsimp only
           gi_wp2
           go_roundw
           case rel => exact ⟨j + 1, k + 1, _, by omega, Lib.hid (by rw [HK.out, Nat.add_assoc]), by go_num, by go_num, Lib.hid rfl, B, p7, c8, i9, f6, r3, row⟩
           case measure => simp [intOf]; omega
          ·have q4 : decide (0 < n) = false := decide_eq_false hn0
           have q4' : decide (n > 0) = false := decide_eq_false hn0; rw [Kf, if_neg hn0] at hsame; have HSAME := Lib.hid (hsame rfl); clear hset hsame; gi_upto_region 21 with fail
           refine zz (by kernel_rfl) ?_; refine chk 2 ?_; refine wpList_nil ?_; refine qh.at ?_; try dsimp only
           gi_upto_region 23 with fail
           refine zz (by kernel_rfl) ?_; refine chk 3 ?_; refine wpList_nil ?_; refine qh.at ?_; try dsimp only
           gi_upto_region 19 with fail
           refine zz (by kernel_rfl) ?_; refine chk 3 ?_; refine wpList_nil ?_; refine qh.at ?_; try dsimp only
           gi_wp2
           go_roundw
           case rel => exact ⟨j + 1, k + 1, R, by omega, Lib.hid (by rw [HK.out, Nat.add_assoc]), by go_num, by go_num, HSAME, B, p7, c8, i9, f6, r3, row⟩
           case measure => simp [intOf]; omega
         ·have q3 : decide (c.x0 + (j : Int) < c.x1) = false := decide_eq_false (by omega)
          have HKN := Lib.hid (show k = (i + 1) * Wd from by rw [Nat.add_mul, Nat.one_mul, HK.out]; omega)
          gi_upto_region 18 with fail
          refine zz (by kernel_rfl) ?_; refine chk 4 ?_
          refine wpList_nil ?_; refine qh.at ?_; try dsimp only
          gi_upto_region 16 with fail
          refine zz (by kernel_rfl) ?_; refine chk 3 ?_; refine wpList_nil ?_; refine qh.at ?_; try dsimp only
          gi_wp2
          go_roundw
          case rel => exact ⟨i + 1, k, R, by omega, HKN, rfl, by go_num, HR, B, p7, c8, i9, f6, r3, row⟩
          case measure => simp [intOf]; omega
       ·have q2 : decide (c.y0 + (i : Int) < c.y1) = false := decide_eq_false (by omega)
        have hiH : i = (c.y1 - c.y0).toNat := by omega
        have hkA : k = areaN c := by rw [HK.out, HAW.out, HWD.out, hiH, Nat.mul_comm]
        have hRI : R = I := by rw [← HR.out, hkA, zaj, ← HI.out]
        subst hRI; clear hkA hiH HR; gi_upto_region 15 with fail
        refine zz (by kernel_rfl) ?_; refine chk 4 ?_
        refine wpList_nil ?_; refine qh.at ?_; try dsimp only
        gi_upto_region 24 with fail
        have r2 := R2W.out.of_eq (B.block _ l2); have rs1 := RS1W.out.below B; have hu := row.rs; rw [hIn] at hu; have hA2 := HA.out; gi_upto_region 24 with fail
        refine zz (by kernel_rfl) ?_; refine chq 2 ?_
        repeat (first | go_big_quiet_skip | (go_big_quiet_want; first | ((first | refine zo (t := 117) rfl _ _ _ rfl (fun w hw => w8 (zH i9 w hw)) (by first | rfl | omega) ?_ | refine qB ?_ | refine qC ?_); simp only [zn]; go_big_quiet_on) | (go_big_quiet_op; go_big_quiet_on)))
        refine wpQuiet_nil ?_; refine clF (enters_of Tryz.func77 (by kernel_rfl) rfl) (c := Wl _ M R' E c _ R _ rs1 TM.out (by unfold maxLen; omega) hu (by rw [hIn]; unfold maxLen; omega) OKI.out HR'.out HEe.out) (h := ?_)
        rintro e wn ⟨a5, c5, rfl, rs5, za⟩; have zf := B.size; have zg := za.size; replace B := B.trans (za.mono B.size)
        (try replace r2 := r2.below za)
        (try replace f6 := f6.below za)
        (try replace r3 := r3.below za)
        clear rs1 hu row; refine ⟨_, rfl, ?_⟩; simp only [zn]; refine chk 3 ?_
        (refine zu (t := 64) rfl _ (jd _ _ rfl) (alK B ?_); clear B; intro b_t15 wn zb zd t15 za zf zk B; (try have zh := r2.lt); (try replace r2 := r2.below (za.mono zb)); (try have zh := i9.lt); (try have zh := f6.lt); (try replace f6 := f6.below (za.mono zb)); (try have zh := r3.lt); (try replace r3 := r3.below (za.mono zb)); (try have zh := rs5.lt); (try replace rs5 := rs5.below (za.mono zb)); simp only [zn])
        (refine zr (t := 64) rfl _ _ rfl _ rfl _ rfl t15 (by kernel_rfl) rfl (by simp [Value.oneCell']) (stK B (by omega) ?_); have t15o := t15; clear t15 B; intro wn t15 ze zf zg B; (try replace rs5 := rs5.chg t15o (by simp) ze); (try replace r2 := r2.of_eq (ze.block _ r2.lt (by omega))); (try replace f6 := f6.of_eq (ze.block _ f6.lt (by omega))); (try replace r3 := r3.of_eq (ze.block _ r3.lt (by omega))); simp only [zn])
        refine chk 1 ?_; refine wpList_nil ?_; refine qh.at ?_; try dsimp only
        have hrs5 : R'.length ≤ R'.length := Nat.le_refl _; have hws5 := B.size; by_cases hE0 : E = 0
        ·subst hE0
         gi_upto_region 25 with fail
         refine zz (by kernel_rfl) ?_; refine chk 2 ?_; refine wpList_nil ?_; refine qh.at ?_; try dsimp only
         gi_upto_region 27 with fail
         refine zz (by kernel_rfl) ?_; refine chk 1 ?_
         (refine zr (t := 64) rfl _ _ rfl _ rfl _ rfl r2 (by kernel_rfl) rfl (by simp [Value.oneCell']) ?_; intro wn ht ze zg; have r2o := r2; clear r2; have r2 := ht; clear ht; simp only [zn])
         refine wpList_nil ?_; refine qh.at ?_; try dsimp only
         gi_wp2
         have CH := (Chg.of_below (b := b_r2) B).trans ze; refine ⟨KeepsOthers.chgB CH R2W.out, (KpW.below B).trans (KpW.exc ze.size (fun j h1 h2 => ze.block j h1 h2) r2o (by decide)), a5, c5, R', Lib.hid ?_, r2, rs5.chg r2o (by simp) ze, r3.of_eq (ze.block _ r3.lt (by omega)), ?_, ?_, f6.of_eq (ze.block _ f6.lt (by omega)), ?_, Chg.below (BWW.out.trans (B.mono hws)) ze k2 (Nat.le_trans hws hws5)⟩
         ·rw [HS2.out, HR'.out, HEe.out]
         ·have h4 := R4W.out.of_eq (B.block _ l4)
          exact h4.of_eq (ze.block _ h4.lt (by omega))
         ·have h5 := E5W.out.of_eq (B.block _ l5)
          exact h5.of_eq (ze.block _ h5.lt (by omega))
         ·have h0 := LMW.out.below B
          exact h0.of_eq (ze.block _ h0.lt (by omega))
        ·have q7 : (E != 0) = true := by simpa using hE0
         gi_upto_region 25 with fail
         refine zz (by kernel_rfl) ?_; refine chk 2 ?_; refine wpList_nil ?_; refine qh.at ?_; try dsimp only
         have r4 := R4W.out.of_eq (B.block _ l4); have e5 := E5W.out.of_eq (B.block _ l5); have BE := BWW.out.trans (B.mono hws); have KE := KeepsOthers.below B; gi_upto_region 26 with fail
         refine zz (by kernel_rfl) ?_
         (refine qe rfl (.agg #[.slice none 0 0]) (by kernel_rfl) ?_; simp only [zn])
         refine chk 1 ?_
         (refine zr (t := 64) rfl _ _ rfl _ rfl _ rfl r4 (by kernel_rfl) rfl (by simp [Value.oneCell']) ?_; have HTO := r4; clear r4; intro wn ht ze zg; replace zg := Nat.le_of_eq zg.symm; replace BE := Chg.below BE ze (by omega) BE.size; replace KE := KE.trans (KeepsOthers.chgB ze HTO); (try replace e5 := e5.of_eq (ze.block _ e5.lt (by omega))); have r4 := ht; clear ht; simp only [zn])
         (refine vj rfl _ _ rfl _ rfl _ rfl e5 ?_; have HTO := e5; clear e5; intro wn ht ze zg; replace zg := Nat.le_of_eq zg.symm; replace BE := Chg.below BE ze (by omega) BE.size; replace KE := KE.trans (KeepsOthers.chgB ze HTO); (try replace r4 := r4.of_eq (ze.block _ r4.lt (by omega))); have e5 := ht; clear ht; simp only [zn])
         refine wpList_nil ?_; refine qh.at ?_; try dsimp only
         gi_wp2
         exact ⟨KE, rfl, E, Lib.hid ⟨by rw [HS2.out, HEe.out], hE0⟩, r4, e5, BE⟩
end Go.Proofs.YtepelndbbhdofaaGreatDoor
/- Contracts: Paint of package stroke, refused; Paint of its reference. -/
namespace Go.Proofs.YtepelndbbhdofaaGreatDoor
open Go.RowKit Go.Shelf Pl
set_option linter.unusedVariables false
set_option linter.unusedSimpArgs false
set_option maxRecDepth 20000
theorem X1 (v vs : Value) (s : Stk) (ls : List TA) (w : World) (h : RS v ls w) (rs : RSE spE vs s.pts w) (hn : s.pts.length ≤ 17592186044416) (hv : jj s = false) : Calls Tryz.prog 30 #[.agg #[v], .agg (stC vs s)] w fun e w' => e = .returned (.tuple #[.agg #[.slice none 0 0], .int .i64 1]) ∧ Below w.heap.size w w' := by
 have B := Below.refl w.heap.size w
 have HV0 := Lib.hid hv
 obtain ⟨ad, cd, rfl, hcd⟩ := rs.len
 obtain ⟨a, c, rfl, hc⟩ := h.len
 clear hv h
 go_enter Tryz.func30, Tryz.ntmps30
 go_upto_region 0 with fail
 refine wp_region_lit ?_
 (refine zt (t := 64) rfl _ rfl _ rfl (alK B ?_); clear B; intro b_r2 wn zb zd r2 za zf zk B; (try have zh := rs.lt); (try replace rs := rs.below (za.mono zb)); simp only [zn])
 (refine zt (t := 30) rfl _ rfl _ rfl (alK B ?_); clear B; intro b_r3 wn zb zd r3 za zf zk B; (try have zh := r2.lt); (try have zh := rs.lt); (try replace rs := rs.below (za.mono zb)); simp only [zn])
 (refine zu (t := 64) rfl _ (jd _ _ rfl) (alK B ?_); clear B; intro b_r4 wn zb zd r4 za zf zk B; (try have zh := r2.lt); (try have zh := r3.lt); (try replace r3 := r3.below (za.mono zb)); (try have zh := rs.lt); (try replace rs := rs.below (za.mono zb)); simp only [zn])
 (refine zu (t := 53) rfl _ (wY _ _ rfl) (alK B ?_); clear B; intro b_e5 wn zb zd e5 za zf zk B; (try have zh := r2.lt); (try have zh := r3.lt); (try replace r3 := r3.below (za.mono zb)); (try have zh := r4.lt); (try replace r4 := r4.below (za.mono zb)); (try have zh := rs.lt); (try replace rs := rs.below (za.mono zb)); simp only [zn])
 refine wpList_nil ?_
 have k5 : b_r4 < b_e5 := by have := r4.lt; omega
 go_upto_region 1 with fail
 refine wp_region_lit ?_
 refine chk 1 ?_
 refine clF (enters_of Tryz.func16 (by kernel_rfl) rfl) (c := jx _ s false _ rs hn HV0.out) (h := ?_)
 rintro e wn ⟨rfl, za⟩
 have zf := B.size
 have zg := za.size
 replace B := B.trans (za.mono B.size)
 (try replace r4 := r4.below za)
 (try replace e5 := e5.below za)
 refine ⟨_, rfl, ?_⟩
 simp only [zn]
 refine chk 1 ?_
 refine wpList_nil ?_
 go_upto_region 2 with fail
 refine wp_region_lit ?_
 (refine qe rfl (.agg #[.slice none 0 0]) (by kernel_rfl) ?_; simp only [zn])
 (refine zr (t := 64) rfl _ _ rfl _ rfl _ rfl r4 (by kernel_rfl) rfl (by simp [Value.oneCell']) (stK B (by omega) ?_); clear r4 B; intro wn r4 ze zf zg B; (try replace e5 := e5.of_eq (ze.block _ e5.lt (by omega))); simp only [zn])
 (refine vj rfl _ _ rfl _ rfl _ rfl e5 (stK B (by omega) ?_); clear e5 B; intro wn e5 ze zf zg B; (try replace r4 := r4.of_eq (ze.block _ r4.lt (by omega))); simp only [zn])
 refine wpList_nil ?_
 first | (refine bodyPost_ret (jV (t := 64) (u := 53) rfl _ _ b_r4 b_e5 rfl rfl r4 (jD e5) Tryz.isAgg64 (by kernel_rfl)) rfl ?_) | (go_step; refine bodyPost_ret (jV (t := 64) (u := 53) rfl _ _ b_r4 b_e5 rfl rfl r4 (jD e5) Tryz.isAgg64 (by kernel_rfl)) rfl ?_) | (go_step; go_step; refine bodyPost_ret (jV (t := 64) (u := 53) rfl _ _ b_r4 b_e5 rfl rfl r4 (jD e5) Tryz.isAgg64 (by kernel_rfl)) rfl ?_) | (go_step; go_step; go_step; refine bodyPost_ret (jV (t := 64) (u := 53) rfl _ _ b_r4 b_e5 rfl rfl r4 (jD e5) Tryz.isAgg64 (by kernel_rfl)) rfl ?_) | (go_step; go_step; go_step; go_step; refine bodyPost_ret (jV (t := 64) (u := 53) rfl _ _ b_r4 b_e5 rfl rfl r4 (jD e5) Tryz.isAgg64 (by kernel_rfl)) rfl ?_) | (go_step; go_step; go_step; go_step; go_step; refine bodyPost_ret (jV (t := 64) (u := 53) rfl _ _ b_r4 b_e5 rfl rfl r4 (jD e5) Tryz.isAgg64 (by kernel_rfl)) rfl ?_)
 exact ⟨rfl, B⟩
/-- Paint of package stroke. -/
theorem Wg (v vs : Value) (s : Stk) (ls ks : List TA) (E : Int) (w : World) (lm : xf w) (h : RS v ls w) (tk : qR ls) (hn : ls.length ≤ maxLen) (rs : RSE spE vs s.pts w) (hn2 : s.pts.length ≤ 17592186044416) (hcol : s.col.ok) (e : jT s ls = (ks, E)) : Calls Tryz.prog 30 #[.agg #[v], .agg (stC vs s)] w fun e w' => ∃ a cp, e = .returned (.tuple #[.agg #[.slice a ks.length cp], .int .i64 E]) ∧ RS (.slice a ks.length cp) ks w' ∧ Below w.heap.size w w' := by
 cases hv : jj s with
 | true =>
  have := X2 v vs s ls w lm h tk hn rs hv hcol; rw [e] at this; exact this
 | false =>
  have e1 : jT s ls = ([], 1) := if_neg (by rw [hv]; simp)
  rw [e1] at e
  injection e with e1 e2
  subst e1 e2; exact (X1 v vs s ls w h rs hn2 hv).mono fun e w' ⟨h1, h2⟩ => ⟨none, 0, h1, RS.nil _, h2⟩
/-! ### The reference -/
/-- The pixels so far. -/
def zfo (c : Rc) (F : Int → Int → Px) (k : Nat) : List Px := (List.range k).map fun j => F (pxX c j) (pxY c j)
end Go.Proofs.YtepelndbbhdofaaGreatDoor
/- The values of the sanity check of chapter 14's laws; slice literals; line. -/
namespace Go.Proofs.YtepelndbbhdofaaGreatDoor
open Go.RowKit Go.Shelf Pl Sha
set_option linter.unusedVariables false
set_option linter.unusedSimpArgs false
set_option maxRecDepth 20000
section
variable {α : Type} {k : Nat} {T ST : TypeId} {E : Elt α k T ST}
theorem Va (ls : List α) (cs : Array Value) (hs : cs.size = ls.length * k) : Instr.fill (fun i => some (i * k, k)) cs (((ls.map fun x => Value.agg (E.enc x)).zipIdx 0).map fun y => (y.2, y.1)) = some (jH E ls).toArray := by
 obtain ⟨r, hr1, hr2, hr3⟩ := Great.fill_dense E.pos (ls.map fun x => Value.agg (E.enc x)) 0 cs (fun v hv => by obtain ⟨x, _, rfl⟩ := List.mem_map.1 hv; simp only [Value.cells, E.size]) (by rw [List.length_map, hs, Nat.zero_add]; exact Nat.le_refl _)
 rw [hr1]
 congr 1
 apply Array.ext_getElem?
 intro j
 have hr : (jH E ls).toArray[j]? = (jH E ls)[j]? := by rw [List.getElem?_toArray]
 rw [hr3 j, List.length_map, hr, Nat.zero_add]
 by_cases h : j < ls.length * k
 ·obtain ⟨h1, h2, h3⟩ := vW E.pos h
  have hx : ls[j / k]? = some ls[j / k] := List.getElem?_eq_getElem h1; have h4 := wW E ls (j / k) _ hx (j % k) h2; rw [← h3] at h4; rw [if_pos ⟨by rw [Nat.zero_mul]; omega, h⟩, h4, Nat.sub_zero, List.getElem?_map, hx]
  simp only [Option.map_some, Option.bind_some, Value.cells]
 ·rw [if_neg (fun h' => h h'.2), Array.getElem?_eq_none (by rw [hs]; exact Nat.le_of_not_lt h), List.getElem?_eq_none (by rw [jW]; exact Nat.le_of_not_lt h)]
variable {ops : Array Oper} {rest : List Oper} {o : Oper} {a : Act} {w : World} {Q : Exit → Act → World → Prop}
theorem zaD {K : Act → World → Prop} (n : Nat) (ps : Array (Nat × Operand)) (ho : o.op = .buildSlice ST n ps) (ls : List α) (hl : ls.length = n) (hp : (ps.map fun (i, x) => (i, a.eval x)).toList = ((ls.map fun x => Value.agg (E.enc x)).zipIdx 0).map fun y => (y.2, y.1)) (hn : 0 < n) (hk : n * k ≤ 1000)
  (h : ∀ b w', w.heap.size ≤ b → b ≤ w.heap.size → qW E w' b ls → Below b w w' → w'.heap.size = b + 1 → K (a.put o.dst (.slice (some ⟨b, 0, none⟩) n n)) w') : o.wp Tryz.prog a w K Q := by
 obtain ⟨i, z, hi, hz, zf, hby, hzc⟩ := E.facts
 have hp0 := Nat.mul_pos hn E.pos
 refine wp_buildSlice ST T n ps ho (jH E ls).toArray i z E.und hi hz (by rw [zf]; omega) (by rw [zf]; omega) ?_ (h _ _ (Nat.le_refl _) (Nat.le_refl _) (by unfold qW AtB; rw [zJ, if_pos rfl]) ((Below.refl _ _).alloc (Nat.le_refl _) _) (World.size_alloc _ _))
 rw [zf, hp]
 exact Va ls _ (by rw [hl]; simp)
theorem uJ (hw : Region.wanted o (yielded ops a.tmps) = true) (n : Nat) (ps : Array (Nat × Operand)) (ho : o.op = .buildSlice ST n ps) (ls : List α) (hl : ls.length = n) (hp : (ps.map fun (i, x) => (i, a.eval x)).toList = ((ls.map fun x => Value.agg (E.enc x)).zipIdx 0).map fun y => (y.2, y.1)) (hn : 0 < n) (hk : n * k ≤ 1000)
  (h : ∀ b w', w.heap.size ≤ b → b ≤ w.heap.size → qW E w' b ls → Below b w w' → w'.heap.size = b + 1 → wpList Tryz.prog ops Q rest (a.put o.dst (.slice (some ⟨b, 0, none⟩) n n)) w') : wpList Tryz.prog ops Q (o :: rest) a w := by
 unfold wpList
 rw [if_pos hw]
 exact .inl (zaD n ps ho ls hl hp hn hk h)
end
/-! ### The example -/
def qo : Stk := ⟨[⟨0, 0, 255⟩, ⟨100, 0, 255⟩, ⟨100, 30, 255⟩], 16, 40, ⟨200, 0, 0, 255⟩, false, 10⟩
def kF : List Db := [⟨10, 0, 16⟩, ⟨50, 0, 16⟩, ⟨90, 0, 16⟩]
theorem ln1 : jj qo = true := by decide +kernel
theorem ln2 : xL qo = kF := by decide +kernel
theorem ln3 : (spB qo 1).pha = 30 := by decide +kernel
theorem ln4 : xL (spB qo 1) = [] := by decide +kernel
theorem ln5 : kH ⟨8, 8, 8⟩ 0 0 = 191 := by decide +kernel
theorem ln6 : YZ qo = ⟨-1, -1, 7, 2⟩ := by decide +kernel
theorem ln7 : jj zSt = false := by decide +kernel
theorem ln8 : vH [] = (zSt, 10) := ZF (by decide)
theorem yW : qo.col.ok := by unfold Px.ok qo; simp
theorem ln9 : vH (xA qo) = (qo, 0) := Yw ((jq _).1 ln1) yW
def WM : Rc := ⟨-1, -1, 1, 1⟩
theorem Yj : ∀ d ∈ kF, okD d ∧ zcO WM d := fun d hd => by
 have hc : d = ⟨10, 0, 16⟩ ∨ d = ⟨50, 0, 16⟩ ∨ d = ⟨90, 0, 16⟩ := by simpa [kF] using hd
 rcases hc with rfl | rfl | rfl
 ·refine ⟨by unfold okD; decide, fun _ x y h => ?_⟩
  have e : tlR (sqC ⟨10, 0, 16⟩) = ⟨-1, -1, 1, 1⟩ := by decide +kernel
  rw [e] at h; exact h
 ·refine ⟨by unfold okD; decide, fun _ x y h => ?_⟩
  have e : tlR (sqC ⟨50, 0, 16⟩) = ⟨0, -1, 1, 1⟩ := by decide +kernel
  rw [e] at h; rw [jk] at h ⊢; unfold WM; simp only at h ⊢; omega
 ·refine ⟨by unfold okD; decide, fun _ x y h => ?_⟩
  have e : tlR (sqC ⟨90, 0, 16⟩) = ⟨0, -1, 1, 1⟩ := by decide +kernel
  rw [e] at h; rw [jk] at h ⊢; unfold WM; simp only at h ⊢; omega
theorem K0 : jL WM := by unfold WM; refine ⟨?_, ?_, ?_, ?_, ?_, ?_, ?_, ?_⟩ <;> (simp only; omega)
theorem zap : (xr qo kF []).2 = 0 := (J4 (s := qo) K0 (by decide) kF [] (fun d h => (Yj d h).1) (fun d h => (Yj d h).2) jZ (fun e h => by cases h)).1
theorem Vb : qN [] = [] := yt jZ
theorem zb9 : jP qo = kF := by
 have := ln2
 unfold xL at this
 rw [ln1] at this
 exact this
theorem J9 : jT qo [] = xr qo kF [] := by
 unfold jT
 rw [if_pos ln1, zb9, Vb]
theorem zeK : (jT qo []).2 = 0 := by rw [J9]; exact zap
theorem zeL : (xq (jT qo []).1 0 0).a > 0 := by
 rw [J9, J5 yW 0 0 kF [] (fun d h => (Yj d h).1) jZ qR.nil zap]
 decide +kernel
/- line, sanity of chapter 14's laws. -/
set_option maxHeartbeats 1000000 in
theorem yr (w : World) : Calls Tryz.prog 48 #[] w fun e w' => ∃ b, e = .returned (.agg (stC (.slice (some ⟨b, 0, none⟩) 3 3) qo)) ∧ RSE spE (.slice (some ⟨b, 0, none⟩) 3 3) qo.pts w' ∧ Below w.heap.size w w' := by
 have B := Below.refl w.heap.size w
 go_enter Tryz.func48, Tryz.ntmps48
 go_upto_region 0 with fail
 refine wp_region_lit ?_
 (refine zu (t := 30) rfl _ (zY _ _ rfl) (alK B ?_); clear B; intro b_r0 wn zb zd r0 za zf zk B; simp only [zn])
 refine wpList_nil ?_
 have hr0 := r0.lt
 go_upto_region 1 with fail
 refine wp_region_lit ?_
 (refine qe rfl (.agg #[.int .i64 0, .int .i64 0, .int .i64 255]) (by first | rfl | kernel_rfl | simp [go_sem, Act.eval]) ?_; simp only [zn])
 (refine qe rfl (.agg #[.int .i64 100, .int .i64 0, .int .i64 255]) (by first | rfl | kernel_rfl | simp [go_sem, Act.eval]) ?_; simp only [zn])
 (refine qe rfl (.agg #[.int .i64 100, .int .i64 30, .int .i64 255]) (by first | rfl | kernel_rfl | simp [go_sem, Act.eval]) ?_; simp only [zn])
 (refine uJ (E := spE) (by first | rfl | simp [Region.wanted, yielded]) 3 _ rfl qo.pts rfl (by simp only [Act.eval, z6]; rfl) (by omega) (by omega) (alK B ?_); clear B; intro b_row wn zb zd row za zf zk B; (try have zh := r0.lt); (try replace r0 := r0.below (za.mono zb)); simp only [zn])
 (refine qe rfl (.agg #[.int .u8 200, .int .u8 0, .int .u8 0, .int .u8 255]) (by first | rfl | kernel_rfl | simp [go_sem, Act.eval]) ?_; simp only [zn])
 (refine qe rfl (.agg (stC (.slice (some ⟨b_row, 0, none⟩) 3 3) qo)) (by first | rfl | kernel_rfl | simp [go_sem, Act.eval]) ?_; simp only [zn])
 (refine zr (t := 30) rfl _ _ rfl _ rfl _ rfl r0 (by kernel_rfl) rfl (by simp [stC, Value.oneCell']) (stK B (by omega) ?_); clear r0 B; intro wn r0 ze zf zg B; replace row := row.of_eq (ze.block _ row.lt (by omega)); simp only [zn])
 refine wpList_nil ?_
 first | (refine bodyPost_ret (zv (t := 30) rfl _ _ (b_r0) rfl r0 Tryz.isAgg30 (by kernel_rfl)) rfl ?_) | (go_step; refine bodyPost_ret (zv (t := 30) rfl _ _ (b_r0) rfl r0 Tryz.isAgg30 (by kernel_rfl)) rfl ?_) | (go_step; go_step; refine bodyPost_ret (zv (t := 30) rfl _ _ (b_r0) rfl r0 Tryz.isAgg30 (by kernel_rfl)) rfl ?_) | (go_step; go_step; go_step; refine bodyPost_ret (zv (t := 30) rfl _ _ (b_r0) rfl r0 Tryz.isAgg30 (by kernel_rfl)) rfl ?_) | (go_step; go_step; go_step; go_step; refine bodyPost_ret (zv (t := 30) rfl _ _ (b_r0) rfl r0 Tryz.isAgg30 (by kernel_rfl)) rfl ?_) | (go_step; go_step; go_step; go_step; go_step; refine bodyPost_ret (zv (t := 30) rfl _ _ (b_r0) rfl r0 Tryz.isAgg30 (by kernel_rfl)) rfl ?_)
 exact ⟨_, rfl, row.rs, B⟩
/-- Split of the example. -/
theorem zaq (v : Value) (w : World) (rs : RSE spE v qo.pts w) : Calls Tryz.prog 26 #[.agg (stC v qo), .int .i64 1] w fun e w' => ∃ aa na ca ab nb cb, e = .returned (.tuple #[.agg (stC (.slice aa na ca) (spA qo 1)), .agg (stC (.slice ab nb cb) (spB qo 1)), .int .i64 0]) ∧ RSE spE (.slice ab nb cb) (spB qo 1).pts w' ∧ Below w.heap.size w w' :=
 (X5 v qo 1 w rs ln1 (by omega) (by decide)).mono fun e w' ⟨va, vb, h1, h2, h3, h4⟩ => by
  obtain ⟨aa, ca, rfl, _⟩ := h2.len; obtain ⟨ab, cb, rfl, _⟩ := h3.len; exact ⟨_, _, _, _, _, _, h1, h3.rs, h4⟩
def lnK : List TA := (jT qo []).1
theorem lnP : jT qo [] = (lnK, 0) := Prod.ext rfl zeK
def lnY : List UInt8 := xA qo
theorem zb8 : lnY.length ≤ 100000000 := by
 have e : xA qo = qL qo := by unfold xA; rw [ln1]; rfl
 show (xA qo).length ≤ _
 rw [e, Zk]
 decide
theorem zcc (w : World) : Calls Tryz.prog 34 #[.string (ofL lnY)] w fun e w' => ∃ a n c, e = .returned (.tuple #[.agg (stC (.slice a n c) qo), .int .i64 0]) ∧ RSE spE (.slice a n c) qo.pts w' ∧ Below w.heap.size w w' :=
 (YP lnY qo 0 w zb8 ln9).mono fun e w' ⟨v, h1, h2, h3⟩ => by
  obtain ⟨a, c, rfl, _⟩ := h2.len; exact ⟨_, _, _, h1, h2, h3⟩
theorem zcb (w : World) : Calls Tryz.prog 34 #[.string { data := #[] }] w fun e w' => ∃ a n c, e = .returned (.tuple #[.agg (stC (.slice a n c) zSt), .int .i64 10]) ∧ Below w.heap.size w w' :=
 (YP [] zSt 10 w (by simp) ln8).mono fun e w' ⟨v, h1, h2, h3⟩ => by
  obtain ⟨a, c, rfl, _⟩ := h2.len; exact ⟨_, _, _, h1, h3⟩
theorem Zu : qo.pts.length ≤ 17592186044416 := by decide
theorem zca : (spB qo 1).pts.length ≤ 17592186044416 := by decide
theorem zb7 : lnK.length ≤ maxLen := by
 have := Xh (s := qo) yW (ls := []) qR.nil
 have := (xl.1 this.1).1
 unfold lnK maxLen
 omega
/-! ### Rectangles compared -/
theorem JY (d : Nat) (a b : Rc) (w : World) : (Op.equalIn (d + 2) 38 (.agg (rcA a)) (.agg (rcA b))).run Tryz.prog w = .ok (decide (a = b)) w := by
 obtain ⟨x, y, z, u⟩ := a
 obtain ⟨x', y', z', u'⟩ := b
 have h : (Op.equalIn (d + 2) 38 (.agg #[.int .i64 x, .int .i64 y, .int .i64 z, .int .i64 u]) (.agg #[.int .i64 x', .int .i64 y', .int .i64 z', .int .i64 u'])).run Tryz.prog w = .ok (x == x' && (y == y' && (z == z' && u == u'))) w := by
  by_cases h1 : x = x' <;> by_cases h2 : y = y' <;> by_cases h3 : z = z' <;> by_cases h4 : u = u' <;> simp [go_sem, h1, h2, h3, h4]
 refine h.trans ?_
 congr 1
 rw [Bool.eq_iff_iff]
 simp
theorem zbQ (a b : Rc) (w : World) : (binOp .eql 38 (.agg (rcA a)) (.agg (rcA b))).run Tryz.prog w = .ok (.bool (decide (a = b))) w := by
 have h := run_eql_struct (P := Tryz.prog) w 38 (rcA a) (rcA b)
 rw [h, JY 9998 a b w]; rfl
theorem z8 {o : Oper} {a : Act} {C : World → Prop} {K : Act → Prop} {p q : Operand} {t2 : TypeId} (h : o.op = .binOp .eql 38 p q t2) (x y : Rc) (hx : a.eval p = .agg (rcA x)) (hy : a.eval q = .agg (rcA y)) (b : Bool) (hb : decide (x = y) = b) (hk : K (a.put o.dst (.bool b))) : o.quiet Tryz.prog a C K :=
 ⟨_, fun w hw => by
  have hg : (eqGuard .eql 38 p q (.agg (rcA x)) (.agg (rcA y))).run Tryz.prog w = .ok () w := run_eqGuard_agg w _ 38 p q _ _ (by kernel_rfl); unfold Oper.quietAt execOp; simp only [h, hx, hy, hg, zbQ, hb, Sem.run_bind, Sem.run_pure, Result.andThen_ok]; exact ⟨rfl, rfl⟩, hk⟩
def zdP : jc := ⟨Option Addr × Nat, ⟨(none, 0)⟩, fun p => .slice p.1 0 p.2, fun _ _ => True, fun _ _ _ _ h => h⟩
def Qh : jc := ⟨Nat, ⟨0⟩, fun b => .agg (stC (.slice (some ⟨b, 0, none⟩) 3 3) qo), fun b w => RSE spE (.slice (some ⟨b, 0, none⟩) 3 3) qo.pts w, fun _ _ _ hb h => h.below hb⟩
set_option maxHeartbeats 4000000 in
theorem za0 (w : World) (lm : xf w) : Calls Tryz.prog 13 #[] w fun e w' => e = .returned (.bool true) ∧ Below w.heap.size w w' := by
 have B := Below.refl w.heap.size w
 have q30 : ((spB qo 1).pha == 30) = true := by rw [ln3]; rfl
 obtain ⟨⟨pr, pg, pb, pa⟩, hpx⟩ : ∃ p, xq lnK 0 0 = p := ⟨_, rfl⟩
 have hpa : pa > 0 := by have := zeL; rw [show (jT qo []).1 = lnK from rfl, hpx] at this; exact this
 have HPX := Lib.hid hpx
 clear hpx
 have qa : decide (pa > 0) = true := decide_eq_true hpa
 have qa' : decide (0 < pa) = true := decide_eq_true hpa
 have GETC : Hid (∀ v w, RS v lnK w → Calls Tryz.prog 31 #[.agg #[v], .int .i64 0, .int .i64 0] w fun e w' => e = .returned (.agg #[.int .u8 pr, .int .u8 pg, .int .u8 pb, .int .u8 pa]) ∧ Below w.heap.size w w') := Lib.hid fun v w h => by
  have := zcR v lnK 0 0 w h zb7 (Qz (by omega) (by omega)) (Qz (by omega) (by omega)); rw [HPX.out] at this; exact this
 go_enter Tryz.func13, Tryz.ntmps13
 go_upto_region 0 with fail
 refine wp_region_lit ?_
 refine chk 1 ?_
 refine wpList_nil ?_
 go_upto_region 1 with fail
 refine wp_region_lit ?_
 refine clF (enters_of Tryz.func48 (by kernel_rfl) rfl) (c := yr _) (h := ?_)
 rintro e wn ⟨bl, rfl, rl, za⟩
 have zf := B.size
 have zg := za.size
 replace B := B.trans (za.mono B.size)
 (try replace lm := lm.below za)
 (try replace rl := rl.below za)
 refine ⟨_, rfl, ?_⟩
 simp only [zn]
 refine clF (enters_of Tryz.func19 (by kernel_rfl) rfl) (c := kO _ qo kF _ rl Zu ln2) (h := ?_)
 rintro e wn ⟨a1, c1, rfl, od, za⟩
 have zf := B.size
 have zg := za.size
 replace B := B.trans (za.mono B.size)
 (try replace lm := lm.below za)
 (try replace rl := rl.below za)
 have rd := od.rs
 clear od rl
 refine ⟨_, rfl, ?_⟩
 simp only [zn]
 refine chk 1 ?_
 refine wpList_nil ?_
 go_upto_region 2 with fail
 refine wp_region_lit ?_
 (refine qe rfl (.agg #[.int .i64 10, .int .i64 0, .int .i64 16]) (by first | rfl | kernel_rfl | simp [go_sem, Act.eval]) ?_; simp only [zn])
 (refine qe rfl (.agg #[.int .i64 50, .int .i64 0, .int .i64 16]) (by first | rfl | kernel_rfl | simp [go_sem, Act.eval]) ?_; simp only [zn])
 (refine qe rfl (.agg #[.int .i64 90, .int .i64 0, .int .i64 16]) (by first | rfl | kernel_rfl | simp [go_sem, Act.eval]) ?_; simp only [zn])
 (refine uJ (E := dbE) (by first | rfl | simp [Region.wanted, yielded]) 3 _ rfl kF rfl (by simp only [Act.eval, z6]; rfl) (by omega) (by omega) (alK B ?_); clear B; intro b_wr wn zb zd wr za zf zk B; (try have zh := lm.lt); (try replace lm := lm.below (za.mono zb)); (try have zh := rd.lt); (try replace rd := rd.below (za.mono zb)); simp only [zn])
 refine chk 1 ?_
 refine wpList_nil ?_
 go_upto_region 3 with fail
 refine wp_region_lit ?_
 refine clF (enters_of Tryz.func48 (by kernel_rfl) rfl) (c := yr _) (h := ?_)
 rintro e wn ⟨bl, rfl, rl, za⟩
 have zf := B.size
 have zg := za.size
 replace B := B.trans (za.mono B.size)
 (try replace lm := lm.below za)
 (try replace rd := rd.below za)
 (try replace wr := wr.below za)
 (try replace rl := rl.below za)
 refine ⟨_, rfl, ?_⟩
 simp only [zn]
 refine clF (enters_of Tryz.func26 (by kernel_rfl) rfl) (c := zaq _ _ rl) (h := ?_)
 rintro e wn ⟨aa, na, ca, ab, nb, cb, rfl, rb, za⟩
 have zf := B.size
 have zg := za.size
 replace B := B.trans (za.mono B.size)
 (try replace lm := lm.below za)
 (try replace rd := rd.below za)
 (try replace wr := wr.below za)
 (try replace rl := rl.below za)
 clear rl
 refine ⟨_, rfl, ?_⟩
 simp only [zn]
 refine chk 4 ?_
 obtain ⟨wK, hK⟩ : ∃ z, z = wn := ⟨_, rfl⟩
 subst hK
 have BG := B
 have hwsK := BG.size
 have B := Below.refl wK.heap.size wK
 have H_lm := Lib.hid lm
 have H_rd := Lib.hid rd
 have H_wr := Lib.hid wr
 have H_rb := Lib.hid rb
 (refine zu (t := 30) rfl _ (zY _ _ rfl) (alK B ?_); clear B; intro b_r3 wn zb zd r3 za zf zk B; (try have zh := lm.lt); (try replace lm := lm.below (za.mono zb)); (try have zh := rd.lt); (try replace rd := rd.below (za.mono zb)); (try have zh := wr.lt); (try replace wr := wr.below (za.mono zb)); (try have zh := rb.lt); (try replace rb := rb.below (za.mono zb)); simp only [zn])
 (have _ := r3.lt; refine zu (t := 30) rfl _ (zY _ _ rfl) (alK B ?_); clear B; intro b_r4 wn zb zd r4 za zf zk B; (try have zh := lm.lt); (try replace lm := lm.below (za.mono zb)); (try have zh := rd.lt); (try replace rd := rd.below (za.mono zb)); (try have zh := wr.lt); (try replace wr := wr.below (za.mono zb)); (try have zh := rb.lt); (try replace rb := rb.below (za.mono zb)); (try have zh := r3.lt); (try replace r3 := r3.below (za.mono zb)); simp only [zn])
 (refine zr (t := 30) rfl _ _ rfl _ rfl _ rfl r3 (by kernel_rfl) rfl (by simp [stC, Value.oneCell']) (stK B (by omega) ?_); clear r3 B; intro wn r3 ze zf zg B; (try replace r4 := r4.of_eq (ze.block _ r4.lt (by omega))); simp only [zn])
 (refine zr (t := 30) rfl _ _ rfl _ rfl _ rfl r4 (by kernel_rfl) rfl (by simp [stC, Value.oneCell']) (stK B (by omega) ?_); clear r4 B; intro wn r4 ze zf zg B; (try replace r3 := r3.of_eq (ze.block _ r3.lt (by omega))); simp only [zn])
 refine chk 1 ?_
 refine wpList_nil ?_
 clear lm
 clear rd
 clear wr
 clear rb
 have lm := by first | exact H_lm.out.below B | exact H_lm.out.of_eq (B.block _ H_lm.out.lt)
 have rd := by first | exact H_rd.out.below B | exact H_rd.out.of_eq (B.block _ H_rd.out.lt)
 have wr := by first | exact H_wr.out.below B | exact H_wr.out.of_eq (B.block _ H_wr.out.lt)
 have rb := by first | exact H_rb.out.below B | exact H_rb.out.of_eq (B.block _ H_rb.out.lt)
 clear H_lm
 clear H_rd
 clear H_wr
 clear H_rb
 have B0 := BG.trans (B.mono hwsK)
 clear B BG hwsK
 have B := B0
 clear B0
 clear r3
 go_upto_region 4 with fail
 refine wp_region_lit ?_
 (refine qe rfl (.agg #[.slice none 0 0]) (by first | rfl | kernel_rfl | simp [go_sem, Act.eval]) ?_; simp only [zn])
 refine clF (enters_of Tryz.func48 (by kernel_rfl) rfl) (c := yr _) (h := ?_)
 rintro e wn ⟨bl, rfl, rl, za⟩
 have zf := B.size
 have zg := za.size
 replace B := B.trans (za.mono B.size)
 (try replace lm := lm.below za)
 (try replace rd := rd.below za)
 (try replace wr := wr.below za)
 (try replace rb := rb.below za)
 (try replace r4 := r4.below za)
 (try replace rl := rl.below za)
 refine ⟨_, rfl, ?_⟩
 simp only [zn]
 refine clF (enters_of Tryz.func30 (by kernel_rfl) rfl) (c := Wg _ _ qo [] lnK 0 _ lm (RS.nil _) qR.nil (Nat.zero_le _) rl Zu yW lnP) (h := ?_)
 rintro e wn ⟨ap, cp, rfl, rk, za⟩
 have zf := B.size
 have zg := za.size
 replace B := B.trans (za.mono B.size)
 (try replace lm := lm.below za)
 (try replace rd := rd.below za)
 (try replace wr := wr.below za)
 (try replace rb := rb.below za)
 (try replace r4 := r4.below za)
 (try replace rl := rl.below za)
 clear rl
 refine ⟨_, rfl, ?_⟩
 simp only [zn]
 refine chk 3 ?_
 obtain ⟨wK, hK⟩ : ∃ z, z = wn := ⟨_, rfl⟩
 subst hK
 have BG := B
 have hwsK := BG.size
 have B := Below.refl wK.heap.size wK
 have H_lm := Lib.hid lm
 have H_rd := Lib.hid rd
 have H_wr := Lib.hid wr
 have H_rb := Lib.hid rb
 have H_r4 := Lib.hid r4
 have H_rk := Lib.hid rk
 (refine zu (t := 64) rfl _ (jd _ _ rfl) (alK B ?_); clear B; intro b_r6 wn zb zd r6 za zf zk B; (try have zh := lm.lt); (try replace lm := lm.below (za.mono zb)); (try have zh := rd.lt); (try replace rd := rd.below (za.mono zb)); (try have zh := wr.lt); (try replace wr := wr.below (za.mono zb)); (try have zh := rb.lt); (try replace rb := rb.below (za.mono zb)); (try have zh := r4.lt); (try replace r4 := r4.below (za.mono zb)); (try have zh := rk.lt); (try replace rk := rk.below (za.mono zb)); simp only [zn])
 (refine zr (t := 64) rfl _ _ rfl _ rfl _ rfl r6 (by kernel_rfl) rfl (by simp [Value.oneCell']) (stK B (by omega) ?_); clear r6 B; intro wn r6 ze zf zg B; simp only [zn])
 refine chk 1 ?_
 refine wpList_nil ?_
 clear lm
 clear rd
 clear wr
 clear rb
 clear r4
 clear rk
 have lm := by first | exact H_lm.out.below B | exact H_lm.out.of_eq (B.block _ H_lm.out.lt)
 have rd := by first | exact H_rd.out.below B | exact H_rd.out.of_eq (B.block _ H_rd.out.lt)
 have wr := by first | exact H_wr.out.below B | exact H_wr.out.of_eq (B.block _ H_wr.out.lt)
 have rb := by first | exact H_rb.out.below B | exact H_rb.out.of_eq (B.block _ H_rb.out.lt)
 have r4 := by first | exact H_r4.out.below B | exact H_r4.out.of_eq (B.block _ H_r4.out.lt)
 have rk := by first | exact H_rk.out.below B | exact H_rk.out.of_eq (B.block _ H_rk.out.lt)
 clear H_lm
 clear H_rd
 clear H_wr
 clear H_rb
 clear H_r4
 clear H_rk
 have B0 := BG.trans (B.mono hwsK)
 clear B BG hwsK
 have B := B0
 clear B0
 go_upto_region 5 with fail
 refine wp_region_lit ?_
 refine clF (enters_of Tryz.func48 (by kernel_rfl) rfl) (c := yr _) (h := ?_)
 rintro e wn ⟨bl, rfl, rl, za⟩
 have zf := B.size
 have zg := za.size
 replace B := B.trans (za.mono B.size)
 (try replace lm := lm.below za)
 (try replace rd := rd.below za)
 (try replace wr := wr.below za)
 (try replace rb := rb.below za)
 (try replace r4 := r4.below za)
 (try replace rk := rk.below za)
 (try replace r6 := r6.below za)
 (try replace rl := rl.below za)
 refine ⟨_, rfl, ?_⟩
 simp only [zn]
 refine clF (enters_of Tryz.func33 (by kernel_rfl) rfl) (c := u5 _ qo lnY _ rl Zu yW rfl) (h := ?_)
 rintro e wn ⟨rfl, za⟩
 have zf := B.size
 have zg := za.size
 replace B := B.trans (za.mono B.size)
 (try replace lm := lm.below za)
 (try replace rd := rd.below za)
 (try replace wr := wr.below za)
 (try replace rb := rb.below za)
 (try replace r4 := r4.below za)
 (try replace rk := rk.below za)
 (try replace r6 := r6.below za)
 (try replace rl := rl.below za)
 clear rl
 refine ⟨_, rfl, ?_⟩
 simp only [zn]
 refine clF (enters_of Tryz.func34 (by kernel_rfl) rfl) (c := zcc _) (h := ?_)
 rintro e wn ⟨a8, n8, c8, rfl, r8s, za⟩
 have zf := B.size
 have zg := za.size
 replace B := B.trans (za.mono B.size)
 (try replace lm := lm.below za)
 (try replace rd := rd.below za)
 (try replace wr := wr.below za)
 (try replace rb := rb.below za)
 (try replace r4 := r4.below za)
 (try replace rk := rk.below za)
 (try replace r6 := r6.below za)
 refine ⟨_, rfl, ?_⟩
 simp only [zn]
 refine chk 3 ?_
 obtain ⟨wK, hK⟩ : ∃ z, z = wn := ⟨_, rfl⟩
 subst hK
 have BG := B
 have hwsK := BG.size
 have B := Below.refl wK.heap.size wK
 have H_lm := Lib.hid lm
 have H_rd := Lib.hid rd
 have H_wr := Lib.hid wr
 have H_rb := Lib.hid rb
 have H_r4 := Lib.hid r4
 have H_rk := Lib.hid rk
 have H_r6 := Lib.hid r6
 have H_r8s := Lib.hid r8s
 (refine zu (t := 30) rfl _ (zY _ _ rfl) (alK B ?_); clear B; intro b_r8 wn zb zd r8 za zf zk B; (try have zh := lm.lt); (try replace lm := lm.below (za.mono zb)); (try have zh := rd.lt); (try replace rd := rd.below (za.mono zb)); (try have zh := wr.lt); (try replace wr := wr.below (za.mono zb)); (try have zh := rb.lt); (try replace rb := rb.below (za.mono zb)); (try have zh := r4.lt); (try replace r4 := r4.below (za.mono zb)); (try have zh := rk.lt); (try replace rk := rk.below (za.mono zb)); (try have zh := r6.lt); (try replace r6 := r6.below (za.mono zb)); (try have zh := r8s.lt); (try replace r8s := r8s.below (za.mono zb)); simp only [zn])
 (refine zr (t := 30) rfl _ _ rfl _ rfl _ rfl r8 (by kernel_rfl) rfl (by simp [stC, Value.oneCell']) (stK B (by omega) ?_); clear r8 B; intro wn r8 ze zf zg B; simp only [zn])
 refine chk 1 ?_
 refine wpList_nil ?_
 clear lm
 clear rd
 clear wr
 clear rb
 clear r4
 clear rk
 clear r6
 clear r8s
 have lm := by first | exact H_lm.out.below B | exact H_lm.out.of_eq (B.block _ H_lm.out.lt)
 have rd := by first | exact H_rd.out.below B | exact H_rd.out.of_eq (B.block _ H_rd.out.lt)
 have wr := by first | exact H_wr.out.below B | exact H_wr.out.of_eq (B.block _ H_wr.out.lt)
 have rb := by first | exact H_rb.out.below B | exact H_rb.out.of_eq (B.block _ H_rb.out.lt)
 have r4 := by first | exact H_r4.out.below B | exact H_r4.out.of_eq (B.block _ H_r4.out.lt)
 have rk := by first | exact H_rk.out.below B | exact H_rk.out.of_eq (B.block _ H_rk.out.lt)
 have r6 := by first | exact H_r6.out.below B | exact H_r6.out.of_eq (B.block _ H_r6.out.lt)
 have r8s := by first | exact H_r8s.out.below B | exact H_r8s.out.of_eq (B.block _ H_r8s.out.lt)
 clear H_lm
 clear H_rd
 clear H_wr
 clear H_rb
 clear H_r4
 clear H_rk
 clear H_r6
 clear H_r8s
 have B0 := BG.trans (B.mono hwsK)
 clear B BG hwsK
 have B := B0
 clear B0
 go_upto_region 6 with fail
 refine wp_region_lit ?_
 refine clF (enters_of Tryz.func34 (by kernel_rfl) rfl) (c := zcb _) (h := ?_)
 rintro e wn ⟨a10, n10, c10, rfl, za⟩
 have zf := B.size
 have zg := za.size
 replace B := B.trans (za.mono B.size)
 (try replace lm := lm.below za)
 (try replace rd := rd.below za)
 (try replace wr := wr.below za)
 (try replace rb := rb.below za)
 (try replace r4 := r4.below za)
 (try replace rk := rk.below za)
 (try replace r6 := r6.below za)
 (try replace r8s := r8s.below za)
 (try replace r8 := r8.below za)
 refine ⟨_, rfl, ?_⟩
 simp only [zn]
 refine chk 3 ?_
 obtain ⟨wK, hK⟩ : ∃ z, z = wn := ⟨_, rfl⟩
 subst hK
 have BG := B
 have hwsK := BG.size
 have B := Below.refl wK.heap.size wK
 have H_lm := Lib.hid lm
 have H_rd := Lib.hid rd
 have H_wr := Lib.hid wr
 have H_rb := Lib.hid rb
 have H_r4 := Lib.hid r4
 have H_rk := Lib.hid rk
 have H_r6 := Lib.hid r6
 have H_r8s := Lib.hid r8s
 have H_r8 := Lib.hid r8
 (refine zu (t := 30) rfl _ (zY _ _ rfl) (alK B ?_); clear B; intro b_r10 wn zb zd r10 za zf zk B; (try have zh := lm.lt); (try replace lm := lm.below (za.mono zb)); (try have zh := rd.lt); (try replace rd := rd.below (za.mono zb)); (try have zh := wr.lt); (try replace wr := wr.below (za.mono zb)); (try have zh := rb.lt); (try replace rb := rb.below (za.mono zb)); (try have zh := r4.lt); (try replace r4 := r4.below (za.mono zb)); (try have zh := rk.lt); (try replace rk := rk.below (za.mono zb)); (try have zh := r6.lt); (try replace r6 := r6.below (za.mono zb)); (try have zh := r8s.lt); (try replace r8s := r8s.below (za.mono zb)); (try have zh := r8.lt); (try replace r8 := r8.below (za.mono zb)); simp only [zn])
 (refine zr (t := 30) rfl _ _ rfl _ rfl _ rfl r10 (by kernel_rfl) rfl (by simp [stC, Value.oneCell']) (stK B (by omega) ?_); clear r10 B; intro wn r10 ze zf zg B; simp only [zn])
 refine chk 1 ?_
 refine wpList_nil ?_
 clear lm
 clear rd
 clear wr
 clear rb
 clear r4
 clear rk
 clear r6
 clear r8s
 clear r8
 have lm := by first | exact H_lm.out.below B | exact H_lm.out.of_eq (B.block _ H_lm.out.lt)
 have rd := by first | exact H_rd.out.below B | exact H_rd.out.of_eq (B.block _ H_rd.out.lt)
 have wr := by first | exact H_wr.out.below B | exact H_wr.out.of_eq (B.block _ H_wr.out.lt)
 have rb := by first | exact H_rb.out.below B | exact H_rb.out.of_eq (B.block _ H_rb.out.lt)
 have r4 := by first | exact H_r4.out.below B | exact H_r4.out.of_eq (B.block _ H_r4.out.lt)
 have rk := by first | exact H_rk.out.below B | exact H_rk.out.of_eq (B.block _ H_rk.out.lt)
 have r6 := by first | exact H_r6.out.below B | exact H_r6.out.of_eq (B.block _ H_r6.out.lt)
 have r8s := by first | exact H_r8s.out.below B | exact H_r8s.out.of_eq (B.block _ H_r8s.out.lt)
 have r8 := by first | exact H_r8.out.below B | exact H_r8.out.of_eq (B.block _ H_r8.out.lt)
 clear H_lm
 clear H_rd
 clear H_wr
 clear H_rb
 clear H_r4
 clear H_rk
 clear H_r6
 clear H_r8s
 clear H_r8
 have B0 := BG.trans (B.mono hwsK)
 clear B BG hwsK
 have B := B0
 clear B0
 clear r10
 go_upto_region 7 with fail
 try have lx_lm := lm.lt
 try have lx_rd := rd.lt
 try have lx_wr := wr.lt
 try have lx_rb := rb.lt
 try have lx_r4 := r4.lt
 try have lx_rk := rk.lt
 try have lx_r6 := r6.lt
 try have lx_r8s := r8s.lt
 try have lx_r8 := r8.lt
 refine zG 62 [(2, zC ?v1_2), (14, zdP), (15, zC ?v1_15), (20, zC ?v1_20), (29, zC ?v1_29), (39, Qh), (40, zC ?v1_40), (47, Qh), (48, zC ?v1_48), (52, zC ?v1_52), (56, Qh), (57, zC ?v1_57)] (by kernel_rfl) (by kernel_rfl) (by kernel_rfl) ?_
 rotate_left 8
 simp only [jm, Nat.reduceAdd]
 refine crq 2 ?_
 repeat (first | go_big_quiet_skip | (go_big_quiet_want; first | ((first | refine z8 rfl ⟨-1, -1, 7, 2⟩ ⟨-1, -1, 7, 2⟩ rfl rfl true (by decide) ?_ | refine qB ?_ | refine qC ?_); simp only [zn]; go_big_quiet_on) | (go_big_quiet_op; go_big_quiet_on)))
 refine wpQuiet_nil ?_
 refine zy (by rfl) (by first | rfl | simp [Region.wanted, yielded]) ?_ ?_
 ·intro wn za hE Kx hKx
  have zf := B.size; have zg := za.size; replace B := B.trans (za.mono B.size)
  (try replace lm := lm.below za)
  (try replace rd := rd.below za)
  (try replace wr := wr.below za)
  (try replace rb := rb.below za)
  (try replace r4 := r4.below za)
  (try replace rk := rk.below za)
  (try replace r6 := r6.below za)
  (try replace r8s := r8s.below za)
  (try replace r8 := r8.below za)
  refine zB rfl (enters_of Tryz.func18 (by kernel_rfl) rfl) (by simp only [Act.eval, z6]; rfl) ?_
  refine (vT _ _ kF kF true wn rd wr.rs (by decide) (by decide) (by decide)).mono ?_; rintro e wm ⟨rfl, zl⟩; refine ⟨_, rfl, ?_⟩; have hz := hKx () wm trivial zl
  dsimp only [zC] at hz
  exact hz
 rintro ⟨⟩
 dsimp only [zC]
 simp only [zn]
 refine crq 11 ?_
 repeat (first | go_big_quiet_skip | (go_big_quiet_want; first | ((first | refine z8 rfl ⟨-1, -1, 7, 2⟩ ⟨-1, -1, 7, 2⟩ rfl rfl true (by decide) ?_ | refine qB ?_ | refine qC ?_); simp only [zn]; go_big_quiet_on) | (go_big_quiet_op; go_big_quiet_on)))
 refine wpQuiet_nil ?_
 refine zy (by rfl) ?hw1_14 ?_ ?_
 case hw1_14 => kernel_rfl
 ·intro wn za hE Kx hKx
  have zf := B.size; have zg := za.size; replace B := B.trans (za.mono B.size)
  (try replace lm := lm.below za)
  (try replace rb := rb.below za)
  (try replace r4 := r4.below za)
  (try replace rk := rk.below za)
  (try replace r6 := r6.below za)
  (try replace r8s := r8s.below za)
  (try replace r8 := r8.below za)
  refine zB rfl (enters_of Tryz.func19 (by kernel_rfl) rfl) (by simp only [Act.eval, z6]; rfl) ?_
  refine (kO _ (spB qo 1) [] wn rb zca ln4).mono ?_; rintro e wm ⟨a', c', rfl, _, zl⟩; exact ⟨_, rfl, hKx (a', c') wm trivial zl⟩
 rintro ⟨a54, c54⟩
 dsimp only [zC, zdP]
 simp only [zn]
 refine zy (by rfl) ?hw1_15 ?_ ?_
 case hw1_15 => kernel_rfl
 ·intro wn za hE Kx hKx
  have zf := B.size; have zg := za.size; replace B := B.trans (za.mono B.size)
  (try replace lm := lm.below za)
  (try replace r4 := r4.below za)
  (try replace rk := rk.below za)
  (try replace r6 := r6.below za)
  (try replace r8s := r8s.below za)
  (try replace r8 := r8.below za)
  refine ky rfl Tryz.underlying35 rfl ?_; exact hKx () _ trivial (Below.refl _ _)
 rintro ⟨⟩
 dsimp only [zC]
 simp only [zn]
 refine crq 4 ?_
 repeat (first | go_big_quiet_skip | (go_big_quiet_want; first | ((first | refine z8 rfl ⟨-1, -1, 7, 2⟩ ⟨-1, -1, 7, 2⟩ rfl rfl true (by decide) ?_ | refine qB ?_ | refine qC ?_); simp only [zn]; go_big_quiet_on) | (go_big_quiet_op; go_big_quiet_on)))
 refine wpQuiet_nil ?_
 refine zy (by rfl) ?hw1_20 ?_ ?_
 case hw1_20 => kernel_rfl
 ·intro wn za hE Kx hKx
  have zf := B.size; have zg := za.size; replace B := B.trans (za.mono B.size)
  (try replace lm := lm.below za)
  (try replace r4 := r4.below za)
  (try replace rk := rk.below za)
  (try replace r6 := r6.below za)
  (try replace r8s := r8s.below za)
  (try replace r8 := r8.below za)
  refine zB rfl (enters_of Tryz.func24 (by kernel_rfl) rfl) (by simp only [Act.eval, z6]; rfl) ?_
  refine (YK ⟨8, 8, 8⟩ 0 0 191 wn (by simp only; omega) (by simp only; omega) (by simp only; omega) ln5).mono ?_
  rintro e wm ⟨rfl, zl⟩; refine ⟨_, rfl, ?_⟩; have hz := hKx () wm trivial zl
  dsimp only [zC] at hz
  exact hz
 rintro ⟨⟩
 dsimp only [zC]
 simp only [zn]
 refine crq 8 ?_
 repeat (first | go_big_quiet_skip | (go_big_quiet_want; first | ((first | refine z8 rfl ⟨-1, -1, 7, 2⟩ ⟨-1, -1, 7, 2⟩ rfl rfl true (by decide) ?_ | refine qB ?_ | refine qC ?_); simp only [zn]; go_big_quiet_on) | (go_big_quiet_op; go_big_quiet_on)))
 refine wpQuiet_nil ?_
 refine zy (by rfl) ?hw1_29 ?_ ?_
 case hw1_29 => kernel_rfl
 ·intro wn za hE Kx hKx
  have zf := B.size; have zg := za.size; replace B := B.trans (za.mono B.size)
  (try replace lm := lm.below za)
  (try replace r4 := r4.below za)
  (try replace rk := rk.below za)
  (try replace r8s := r8s.below za)
  (try replace r8 := r8.below za)
  refine zB rfl (enters_of Tryz.func31 (by kernel_rfl) rfl) (by simp only [Act.eval, z6]; rfl) ?_
  refine (GETC.out _ wn rk).mono ?_; rintro e wm ⟨rfl, zl⟩; refine ⟨_, rfl, ?_⟩; have hz := hKx () wm trivial zl
  dsimp only [zC] at hz
  exact hz
 rintro ⟨⟩
 dsimp only [zC]
 simp only [zn]
 refine crq 9 ?_
 repeat (first | go_big_quiet_skip | (go_big_quiet_want; first | ((first | refine z8 rfl ⟨-1, -1, 7, 2⟩ ⟨-1, -1, 7, 2⟩ rfl rfl true (by decide) ?_ | refine qB ?_ | refine qC ?_); simp only [zn]; go_big_quiet_on) | (go_big_quiet_op; go_big_quiet_on)))
 refine wpQuiet_nil ?_
 refine zy (by rfl) ?hw1_39 ?_ ?_
 case hw1_39 => kernel_rfl
 ·intro wn za hE Kx hKx
  have zf := B.size; have zg := za.size; replace B := B.trans (za.mono B.size)
  (try replace lm := lm.below za)
  (try replace r8s := r8s.below za)
  refine zB rfl (enters_of Tryz.func48 (by kernel_rfl) rfl) (by simp only [Act.eval, z6]; rfl) ?_
  refine (yr wn).mono ?_; rintro e wm ⟨b', rfl, hr, zl⟩; exact ⟨_, rfl, hKx b' wm hr zl⟩
 rintro bl79
 dsimp only [zC, Qh]
 simp only [zn]
 refine zy (by rfl) ?hw1_40 ?_ ?_
 case hw1_40 => kernel_rfl
 ·intro wn za hE Kx hKx
  have zf := B.size; have zg := za.size; replace B := B.trans (za.mono B.size)
  (try replace lm := lm.below za)
  (try replace r8s := r8s.below za)
  have n79 := hE 39 (by kernel_rfl); change RSE _ _ _ _ at n79
  refine zB rfl (enters_of Tryz.func28 (by kernel_rfl) rfl) (by simp only [Act.eval, z6]; rfl) ?_
  refine (WE _ _ qo qo true wn r8s n79 (by decide) (by decide) (by decide)).mono ?_; rintro e wm ⟨rfl, zl⟩; refine ⟨_, rfl, ?_⟩; have hz := hKx () wm trivial zl
  dsimp only [zC] at hz
  exact hz
 rintro ⟨⟩
 dsimp only [zC]
 simp only [zn]
 refine crq 6 ?_
 repeat (first | go_big_quiet_skip | (go_big_quiet_want; first | ((first | refine z8 rfl ⟨-1, -1, 7, 2⟩ ⟨-1, -1, 7, 2⟩ rfl rfl true (by decide) ?_ | refine qB ?_ | refine qC ?_); simp only [zn]; go_big_quiet_on) | (go_big_quiet_op; go_big_quiet_on)))
 refine wpQuiet_nil ?_
 refine zy (by rfl) ?hw1_47 ?_ ?_
 case hw1_47 => kernel_rfl
 ·intro wn za hE Kx hKx
  have zf := B.size; have zg := za.size; replace B := B.trans (za.mono B.size)
  (try replace lm := lm.below za)
  refine zB rfl (enters_of Tryz.func48 (by kernel_rfl) rfl) (by simp only [Act.eval, z6]; rfl) ?_
  refine (yr wn).mono ?_; rintro e wm ⟨b', rfl, hr, zl⟩; exact ⟨_, rfl, hKx b' wm hr zl⟩
 rintro bl87
 dsimp only [zC, Qh]
 simp only [zn]
 refine zy (by rfl) ?hw1_48 ?_ ?_
 case hw1_48 => kernel_rfl
 ·intro wn za hE Kx hKx
  have zf := B.size; have zg := za.size; replace B := B.trans (za.mono B.size)
  (try replace lm := lm.below za)
  have n87 := hE 47 (by kernel_rfl); change RSE _ _ _ _ at n87
  refine zB rfl (enters_of Tryz.func16 (by kernel_rfl) rfl) (by simp only [Act.eval, z6]; rfl) ?_
  refine (jx _ qo true wn n87 Zu ln1).mono ?_; rintro e wm ⟨rfl, zl⟩; refine ⟨_, rfl, ?_⟩; have hz := hKx () wm trivial zl
  dsimp only [zC] at hz
  exact hz
 rintro ⟨⟩
 dsimp only [zC]
 simp only [zn]
 refine crq 3 ?_
 repeat (first | go_big_quiet_skip | (go_big_quiet_want; first | ((first | refine z8 rfl ⟨-1, -1, 7, 2⟩ ⟨-1, -1, 7, 2⟩ rfl rfl true (by decide) ?_ | refine qB ?_ | refine qC ?_); simp only [zn]; go_big_quiet_on) | (go_big_quiet_op; go_big_quiet_on)))
 refine wpQuiet_nil ?_
 refine zy (by rfl) ?hw1_52 ?_ ?_
 case hw1_52 => kernel_rfl
 ·intro wn za hE Kx hKx
  have zf := B.size; have zg := za.size; replace B := B.trans (za.mono B.size)
  (try replace lm := lm.below za)
  refine zB rfl (enters_of Tryz.func16 (by kernel_rfl) rfl) (by simp only [Act.eval, z6]; rfl) ?_
  refine (jx (.slice none 0 0) zSt false wn (qn.nil (E := spE) 0 wn).rs (by decide) ln7).mono ?_; rintro e wm ⟨rfl, zl⟩; refine ⟨_, rfl, ?_⟩; have hz := hKx () wm trivial zl
  dsimp only [zC] at hz
  exact hz
 rintro ⟨⟩
 dsimp only [zC]
 simp only [zn]
 refine crq 3 ?_
 repeat (first | go_big_quiet_skip | (go_big_quiet_want; first | ((first | refine z8 rfl ⟨-1, -1, 7, 2⟩ ⟨-1, -1, 7, 2⟩ rfl rfl true (by decide) ?_ | refine qB ?_ | refine qC ?_); simp only [zn]; go_big_quiet_on) | (go_big_quiet_op; go_big_quiet_on)))
 refine wpQuiet_nil ?_
 refine zy (by rfl) ?hw1_56 ?_ ?_
 case hw1_56 => kernel_rfl
 ·intro wn za hE Kx hKx
  have zf := B.size; have zg := za.size; replace B := B.trans (za.mono B.size)
  (try replace lm := lm.below za)
  refine zB rfl (enters_of Tryz.func48 (by kernel_rfl) rfl) (by simp only [Act.eval, z6]; rfl) ?_
  refine (yr wn).mono ?_; rintro e wm ⟨b', rfl, hr, zl⟩; exact ⟨_, rfl, hKx b' wm hr zl⟩
 rintro bl96
 dsimp only [zC, Qh]
 simp only [zn]
 refine zy (by rfl) ?hw1_57 ?_ ?_
 case hw1_57 => kernel_rfl
 ·intro wn za hE Kx hKx
  have zf := B.size; have zg := za.size; replace B := B.trans (za.mono B.size)
  (try replace lm := lm.below za)
  have n96 := hE 56 (by kernel_rfl); change RSE _ _ _ _ at n96
  refine zB rfl (enters_of Tryz.func21 (by kernel_rfl) rfl) (by simp only [Act.eval, z6]; rfl) ?_
  refine (Jv _ qo ⟨-1, -1, 7, 2⟩ wn lm n96 Zu ln6).mono ?_; rintro e wm ⟨rfl, zl⟩; refine ⟨_, rfl, ?_⟩; have hz := hKx () wm trivial zl
  dsimp only [zC] at hz
  exact hz
 rintro ⟨⟩
 dsimp only [zC]
 simp only [zn]
 refine crq 4 ?_
 repeat (first | go_big_quiet_skip | (go_big_quiet_want; first | ((first | refine z8 rfl ⟨-1, -1, 7, 2⟩ ⟨-1, -1, 7, 2⟩ rfl rfl true (by decide) ?_ | refine qB ?_ | refine qC ?_); simp only [zn]; go_big_quiet_on) | (go_big_quiet_op; go_big_quiet_on)))
 refine wpQuiet_nil ?_
 refine zW ?_
 intro wn za hE
 have zf := B.size
 have zg := za.size
 replace B := B.trans (za.mono B.size)
 have n79 := hE 39
 change RSE _ _ _ _ at n79
 have n87 := hE 47
 change RSE _ _ _ _ at n87
 have n96 := hE 56
 change RSE _ _ _ _ at n96
 clear hE
 try simp only [List.drop_succ_cons, List.drop_zero]
 refine zK.normal ?_
 go_wp2
 go_ret
 exact ⟨rfl, B⟩
end Go.Proofs.YtepelndbbhdofaaGreatDoor
/- How this seat's arguments are opened: slices of integers, rectangles, generated rasters. -/
namespace Go.Proofs.YtepelndbbhdofaaGreatDoor
open Go.ChangeShapes Go.WideShapes Go.ChangeAt Go.RowKit Pl
set_option linter.unusedVariables false
set_option linter.unusedSimpArgs false
set_option maxRecDepth 20000
theorem zaT : reachBytes ≤ 140737488351232 := by decide
section
variable {H : Type} {enc : TypeId × Value → H} {w : World} {base : Nat} {spare : Nat → Bool} {held : Bool}
theorem KZ (b off n : Nat) : (Addr.add ⟨b, off, none⟩ n) = ⟨b, off + n, none⟩ := by
 unfold Addr.add; split
 ·rename_i h; subst h; rfl
 ·rfl
theorem VO {fuel : Nat} {cs : List Value} {x : DataW H × List MemPlace} (h : DataW.trod enc Tryz.prog w base spare held fuel 22 cs = some x) (hw : ∀ n ∈ x.1.weights Tryz.prog 22, n ≤ reachBytes) :
  ∃ v L, cs = [v] ∧ RSE inE v L w ∧ L.length ≤ 17592186044416 := by
 have hC : Tryz.prog.cellsOf 3 = 1 := by kernel_rfl
 have hB : Tryz.prog.bytesOf 3 = 8 := by kernel_rfl
 rcases open_ints Tryz.underlying22 Tryz.underlying3 hC h with ⟨rfl, rfl⟩ | ⟨a, len, cap, zs, rfl, _, hl, hcap, hz, rfl, hcell, _⟩
 ·exact ⟨_, [], rfl, RSE.nil w, by simp⟩
 ·have hzl : len ≤ zs.length := by rw [hz]; split <;> omega
  have htl : (zs.take len).length = len := by rw [List.length_take, Nat.min_eq_left hzl]
  refine ⟨_, zs.take len, rfl, ?_, ?_⟩
  ·by_cases h0 : len = 0
   ·subst h0; exact .inr (.inr ⟨a, cap, rfl, by simp⟩)
   ·obtain ⟨b, off, spot⟩ := a
    have c0 := hcell 0 (by omega); have hspot : spot = none := by simpa [Addr.add] using World.cell?_spot c0
    subst hspot; simp only [KZ] at hcell c0; refine .inr (.inl ⟨b, off, cap, by rw [htl], by rw [htl]; exact hl, fun _ => ⟨World.block_lt_of_cell? w _ c0, fun i x hi j hj => ?_⟩⟩)
    obtain rfl : j = 0 := by omega
    have hil : i < len := by rw [← htl]; exact (List.getElem?_eq_some_iff.1 hi).1
    rw [List.getElem?_take_of_lt hil] at hi; rw [Nat.mul_one, Nat.add_zero, hcell i (by omega), List.getD_eq_getElem?_getD, hi]
    rfl
  ·rw [htl]
   have := hw ((len + (zs.length - len)) * 8) (by simp [DataW.weights, Tryz.underlying22, hB, lits, Nat.min_eq_left hzl]); have := zaT; omega
theorem Qy {fuel : Nat} {cs : List Value} {x : DataW H × List MemPlace} (h : DataW.trod enc Tryz.prog w base spare held fuel 3 cs = some x) : ∃ n : Int, cs = [.int .i64 n] ∧ (Lit.int .i64 n).wf = true := by
 obtain ⟨n, e, _, wf⟩ := DataW.trod_int Tryz.underlying3 h
 exact ⟨n, e, wf⟩
end
end Go.Proofs.YtepelndbbhdofaaGreatDoor
/- The door of chapter 14's laws: what the one listed variable gives the walks. -/
namespace Go.Proofs.YtepelndbbhdofaaGreatDoor
open Go.ChangeShapes Go.WideShapes Go.ChangeAt Go.RowKit Pl
set_option linter.unusedVariables false
set_option linter.unusedSimpArgs false
def J6 : List (String × DataW Unit) := [("gouache/stroke.limits", Rows.laid_gouache_stroke_limits)]
theorem WX (os : Os) (args : Array Value) : laidMetH Tryz.prog J6 ((World.doorLaid Tryz.prog 400 os).forCall (fun _ _ => 0) ⟨#[], args, []⟩).memory :=
 laidMetH_of_parts3 (fuel := 8) (laidMet_of_run' 8 (by kernel_rfl) (by kernel_rfl)) (by kernel_rfl) (by kernel_rfl)
theorem Y8 : Tryz.prog.globalNamed "gouache/stroke.limits" = some 0 := by kernel_rfl
/-- WHAT THE CONDITION GIVES THE WALKS. -/
theorem J8 {W : World} (h : laidMetH Tryz.prog J6 W) : xf W := by
 rw [MakeChecks.laidMetH_plain _ _ _ (by kernel_rfl)] at h
 obtain ⟨ps, ⟨g, t, cs, fuel, p, q, hg, ht, hv, hd, _, _⟩, _⟩ := h
 obtain rfl := Option.some.inj (Y8.symm.trans hg)
 have hty : (Tryz.prog.globals[0]?).map (·.type) = some 38 := by kernel_rfl
 obtain rfl := Option.some.inj (hty.symm.trans ht)
 have hC : Tryz.prog.cellsOf 3 = 1 := by kernel_rfl
 have hC4 : Tryz.prog.cellsOf 38 = 4 := by kernel_rfl
 obtain ⟨y0, y1, y2, y3, n, hx, hlen, h0, h1, h2, h3⟩ := Joins.trod_struct4 Tryz.underlying38 hd
 obtain ⟨c0, c1, c2, c3, rfl⟩ := Joins.array4 (show cs.size = 4 from by rw [← Array.length_toList, hlen, hC4])
 simp only [hC, List.drop_zero, List.drop_succ_cons, List.take_succ_cons, List.take_zero] at h0 h1 h2 h3
 obtain ⟨a, ea, ya, _⟩ := DataW.trod_int Tryz.underlying3 h0
 obtain ⟨b, eb, yb, _⟩ := DataW.trod_int Tryz.underlying3 h1
 obtain ⟨c, ec, yc, _⟩ := DataW.trod_int Tryz.underlying3 h2
 obtain ⟨e, ee, ye, _⟩ := DataW.trod_int Tryz.underlying3 h3
 subst ya yb yc ye
 simp only [Rows.laid_gouache_stroke_limits, Prod.mk.injEq, DataW.agg.injEq, List.cons.injEq, DataW.lit.injEq, Lit.int.injEq, true_and, and_true] at hx
 obtain ⟨⟨rfl, rfl, rfl, rfl⟩, _⟩ := hx
 simp at ea eb ec ee
 subst ea eb ec ee
 have hh : ∃ t k, W.heap[0]? = some (.cells #[.int .i64 (-65536), .int .i64 (-65536), .int .i64 65536, .int .i64 65536] t k) := by
  unfold World.var? at hv; rw [Y8] at hv; simp only [Option.bind_some] at hv; split at hv
  ·rename_i cs2 t2 k2 he
   injection hv with hv
   subst hv; exact ⟨_, _, he⟩
  ·cases hv
 obtain ⟨t2, k2, hh⟩ := hh
 refine ⟨(Array.getElem?_eq_some_iff.1 hh).1, fun j hj => ?_⟩
 unfold World.cell?
 simp only [hh]
 rfl
end Go.Proofs.YtepelndbbhdofaaGreatDoor
/- Openers of chapter 14's arguments; masks. -/
namespace Go.Proofs.YtepelndbbhdofaaGreatDoor
open Go.ChangeShapes Go.WideShapes Go.ChangeAt Go.RowKit Pl
set_option linter.unusedVariables false
set_option linter.unusedSimpArgs false
set_option maxRecDepth 20000
section
variable {H : Type} {enc : TypeId × Value → H} {w : World} {base : Nat} {spare : Nat → Bool} {held : Bool}
end
/- Openers of chapter 14's arguments: rows of three and six integers, a Raw. -/
section
variable {H : Type} {enc : TypeId × Value → H} {w : World} {base : Nat} {spare : Nat → Bool} {held : Bool}
theorem Ym {r : Reach} {b0 : Nat} {v : Value} {d : DataW H} {p : List MemPlace} (hv : Value.okWide Tryz.prog w r b0 24 v)
  (h : DataW.Trod enc Tryz.prog w base spare held 24 v d p) (hw : ∀ n ∈ d.weights Tryz.prog 24, n ≤ reachBytes) :
  ∃ (vL : Value) (L : List Int) (how val : Int), v = .agg #[vL, .int .i64 how, .int .i64 val] ∧ RSE inE vL L w ∧ L.length ≤ 17592186044416 ∧ (Lit.int .i64 how).wf = true ∧ (Lit.int .i64 val).wf = true := by
 obtain ⟨v0, v1, v2, y0, y1, y2, n, rfl, hd, _, h0, h1, h2⟩ := Joins.open_agg3 Tryz.underlying24 (by kernel_rfl) (by kernel_rfl) hv h
 have hww : ∀ n, n ∈ y0.1.weights Tryz.prog 22 → n ≤ reachBytes := fun n hn => by
  refine hw n ?_; rw [hd]; simp only [DataW.weights, Tryz.underlying24]; simp only [List.map_cons, List.map_nil, DataW.weightsEach, List.mem_append]; exact .inl hn
 obtain ⟨vL, L, eL, rL, lL⟩ := VO h0 fun n hn => hww n hn
 obtain ⟨how, eh, wh⟩ := Qy h1
 obtain ⟨val, ev, wv⟩ := Qy h2
 simp at eL eh ev
 subst eL; subst eh; subst ev
 exact ⟨_, L, how, val, rfl, rL, lL, wh, wv⟩
end
end Go.Proofs.YtepelndbbhdofaaGreatDoor
