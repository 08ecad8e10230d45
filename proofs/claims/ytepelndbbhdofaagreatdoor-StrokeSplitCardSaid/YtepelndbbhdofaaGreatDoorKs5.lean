import Derived.Test.YtepelndbbhdofaaGreatDoorKs4
import Derived.SizedLaws
import Derived.ChangeSlices
import Derived.Test.YtepelndbbhdofaaGreatDoorTie
import Derived.Test.YtepelndbbhdofaaGreatDoorCards
import Derived.LaidMore
import Derived.Stop.Joined
import Derived.Stop.LaidErr
import Derived.Lib.LaidTab
import Derived.SevenTiedAt

/- Contracts of Clone at points; of Split of package stroke. -/
namespace Go.Proofs.YtepelndbbhdofaaGreatDoor
open Go.RowKit Go.Shelf Pl
set_option linter.unusedVariables false
set_option linter.unusedSimpArgs false
set_option maxRecDepth 20000
set_option maxHeartbeats 1000000 in
theorem Xm (v : Value) (l : List Sp) (w : World) (h : jF qD v l w) (hn : l.length ≤ 100000) : Calls Tryz.prog 69 #[v] w fun e w' => ∃ a c, e = .returned (.slice a l.length c) ∧ zW qD w.heap.size (.slice a l.length c) l w' ∧ Below w.heap.size w w' := by
 have B := Below.refl w.heap.size w
 have q26 : ∀ (w : World) (a : Option Addr) (n c n' c' : Nat), (binOp .eql 26 (.slice a n c) (.slice none n' c')).run Tryz.prog w = .ok (.bool a.isNone) w := fun w a n c n' c' => Lib.run_eql_slice_nil w _ _ a n c n' c' Tryz.underlying26
 obtain ⟨a, c, rfl, hc⟩ := h.len
 have HS := Lib.hid h
 cases a with
 | none =>
  have hl0 : l = [] := by
   rcases h with ⟨_, h⟩ | ⟨g, o, c', e, _⟩ | ⟨_, _, e, h⟩
   ·exact h
   ·injection e with e1; cases e1
   ·exact h
  subst hl0; clear h HS; go_enter Tryz.func69, Tryz.ntmps69
  go_wp2; go_ret; exact ⟨_, _, rfl, zW.nil _ _, B⟩
 | some ad =>
  go_enter Tryz.func69, Tryz.ntmps69
  go_wp2_with (first | (at_builtin; refine xm rfl _ _ rfl _ _ rfl rfl od (h) (by simp only [List.length_append, List.length_cons, List.length_nil]; omega) (by omega) ?_; intro v_od wn ht za; have zf := B.size; have hbz := za.size; replace B := B.trans (za.mono (by omega)); clear od; have od := ht; clear ht; obtain ⟨a_od, c_od, hv, hco⟩ := od.len; (try simp only [List.length_append, List.length_cons, List.length_nil, Nat.zero_add] at hv hco); subst hv; simp only [zn]) | (refine y6 rfl rfl (zV B ?_); clear B; intro b_od wn zb zd od za zf zk B; replace h := h.below (za.mono (by omega)); simp only [zn]) | fail)
  go_ret; exact ⟨_, _, rfl, by rw [List.nil_append] at od; exact od.mono (by omega), B⟩
/-- Two blocks and a slot for results. -/
theorem zO {t u : TypeId} {fn : Func} {p r q : Tmp} (h : fn.results = #[.cell p t, .cell r u, .tmp q]) (tmps : Array Value) (w : World) (b c : Nat) (hp : tmps.getD p undef = .pointer (some ⟨b, 0, none⟩)) (hr : tmps.getD r undef = .pointer (some ⟨c, 0, none⟩)) {cs ds : Array Value} (v : Value) (hq : tmps.getD q undef = v) (ht : zF t w b cs) (hu : zF u w c ds) (hagg : ∀ w : World, (isAgg t).run Tryz.prog w = .ok true w) (zf : (Tryz.prog.info? t).map (·.size) = some cs.size) (hagg2 : ∀ w : World, (isAgg u).run Tryz.prog w = .ok true w) (hsz2 : (Tryz.prog.info? u).map (·.size) = some ds.size) :
  (results fn tmps).run Tryz.prog w = .ok (.tuple #[.agg cs, .agg ds, v]) w := by
 have hl := zy ht hagg zf
 have hl2 := zy hu hagg2 hsz2
 simp only [Instr.loadAt, Instr.sureAddr, Sem.run_bind, Sem.run_pure, Result.andThen_ok] at hl hl2
 unfold results
 rw [h]
 have hp' : tmps[p]?.getD undef = .pointer (some ⟨b, 0, none⟩) := by simpa using hp
 have hr' : tmps[r]?.getD undef = .pointer (some ⟨c, 0, none⟩) := by simpa using hr
 have hq' : tmps[q]?.getD undef = v := by simpa using hq
 simp [hp', hr', hq', Instr.sureAddr, asAddr, hl, hl2, Sem.run_bind, Sem.run_pure, Result.andThen_ok]
set_option maxHeartbeats 4000000 in
/-- Split, refused. -/
theorem Y0 (v : Value) (s : qv) (at_ : Int) (w : World) (rs : jF qD v s.pts w) (hn : s.pts.length ≤ 17592186044416) (hno : qM s = false ∨ at_ < 1 ∨ (s.pts.length : Int) - 2 < at_) : Calls Tryz.prog 26 #[.agg (qw v s), .int .i64 at_] w fun e w' => ∃ va vb, e = .returned (.tuple #[.agg (qw va ⟨[], 0, 0, Px.zero, false, 0⟩), .agg (qw vb ⟨[], 0, 0, Px.zero, false, 0⟩), .int .i64 1]) ∧ zW qD w.heap.size va [] w' ∧ zW qD w.heap.size vb [] w' ∧ Below w.heap.size w w' := by
 have B := Below.refl w.heap.size w
 obtain ⟨a, c, rfl, hc⟩ := rs.len
 cases hv : qM s with
 | false =>
  have HV := Lib.hid hv; clear hv hno; go_enter Tryz.func26, Tryz.ntmps26
  go_upto_region 0 with fail
  refine wp_region_lit ?_
  (refine zt (t := 30) rfl _ rfl _ rfl (zV B ?_); clear B; intro b_r2 wn zb zd r2 za zf zk B; (try have zh := rs.lt); (try replace rs := rs.below (za.mono zb)); simp only [zn])
  (refine zr (t := 30) rfl _ (zG _ _ rfl) (zV B ?_); clear B; intro b_r4 wn zb zd r4 za zf zk B; (try have zh := r2.lt); (try replace r2 := r2.below (za.mono zb)); (try have zh := rs.lt); (try replace rs := rs.below (za.mono zb)); simp only [zn])
  (refine zr (t := 30) rfl _ (zG _ _ rfl) (zV B ?_); clear B; intro b_r5 wn zb zd r5 za zf zk B; (try have zh := r2.lt); (try replace r2 := r2.below (za.mono zb)); (try have zh := r4.lt); (try replace r4 := r4.below (za.mono zb)); (try have zh := rs.lt); (try replace rs := rs.below (za.mono zb)); simp only [zn])
  refine zx 1 ?_; refine wpList_nil ?_; have k1 : w.heap.size ≤ b_r2 := by omega
  have k2 : b_r2 < b_r4 := by have := r2.lt; omega
  have k3 : b_r4 < b_r5 := by have := r4.lt; omega
  go_upto_region 1 with fail
  refine wp_region_lit ?_; refine zx 1 ?_
  refine qE (enters_of Tryz.func16 (by kernel_rfl) rfl) (c := jh _ s false _ rs hn HV.out) (h := ?_); rintro e wn ⟨rfl, za⟩; have zf := B.size; have zg := za.size; replace B := B.trans (za.mono B.size)
  (try replace r2 := r2.below za)
  (try replace r4 := r4.below za)
  (try replace r5 := r5.below za)
  refine ⟨_, rfl, ?_⟩; simp only [zn]; refine zx 9 ?_
  refine zH ?hs2_11 ?_
  case hs2_11 => kernel_rfl
  simp only [zn]; refine zx 3 ?_; refine wpList_nil ?_; go_upto_region 2 with fail
  refine wp_region_lit ?_
  (refine zM rfl (.agg #[.slice none 0 0, .int .i64 0, .int .i64 0, .int .u8 0, .int .u8 0, .int .u8 0, .int .u8 0, .bool false, .int .i64 0]) (by kernel_rfl) ?_; simp only [zn])
  (refine zM rfl (.agg #[.slice none 0 0, .int .i64 0, .int .i64 0, .int .u8 0, .int .u8 0, .int .u8 0, .int .u8 0, .bool false, .int .i64 0]) (by kernel_rfl) ?_; simp only [zn])
  (refine zp (t := 30) rfl _ _ rfl _ rfl _ rfl r4 (by kernel_rfl) rfl (by simp [qw, Value.oneCell']) (qt B (by omega) ?_); clear r4 B; intro wn r4 ze zf zg B; (try replace r2 := r2.of_eq (ze.block _ r2.lt (by omega))); (try replace r5 := r5.of_eq (ze.block _ r5.lt (by omega))); simp only [zn])
  (refine zp (t := 30) rfl _ _ rfl _ rfl _ rfl r5 (by kernel_rfl) rfl (by simp [qw, Value.oneCell']) (qt B (by omega) ?_); clear r5 B; intro wn r5 ze zf zg B; (try replace r2 := r2.of_eq (ze.block _ r2.lt (by omega))); (try replace r4 := r4.of_eq (ze.block _ r4.lt (by omega))); simp only [zn])
  refine zx 1 ?_; refine wpList_nil ?_; first | (refine bodyPost_ret (zO (t := 30) (u := 30) rfl _ _ b_r4 b_r5 rfl rfl _ rfl r4 r5 Tryz.isAgg30 (by kernel_rfl) Tryz.isAgg30 (by kernel_rfl)) rfl ?_) | (go_step; refine bodyPost_ret (zO (t := 30) (u := 30) rfl _ _ b_r4 b_r5 rfl rfl _ rfl r4 r5 Tryz.isAgg30 (by kernel_rfl) Tryz.isAgg30 (by kernel_rfl)) rfl ?_) | (go_step; go_step; refine bodyPost_ret (zO (t := 30) (u := 30) rfl _ _ b_r4 b_r5 rfl rfl _ rfl r4 r5 Tryz.isAgg30 (by kernel_rfl) Tryz.isAgg30 (by kernel_rfl)) rfl ?_) | (go_step; go_step; go_step; refine bodyPost_ret (zO (t := 30) (u := 30) rfl _ _ b_r4 b_r5 rfl rfl _ rfl r4 r5 Tryz.isAgg30 (by kernel_rfl) Tryz.isAgg30 (by kernel_rfl)) rfl ?_) | (go_step; go_step; go_step; go_step; refine bodyPost_ret (zO (t := 30) (u := 30) rfl _ _ b_r4 b_r5 rfl rfl _ rfl r4 r5 Tryz.isAgg30 (by kernel_rfl) Tryz.isAgg30 (by kernel_rfl)) rfl ?_) | (go_step; go_step; go_step; go_step; go_step; refine bodyPost_ret (zO (t := 30) (u := 30) rfl _ _ b_r4 b_r5 rfl rfl _ rfl r4 r5 Tryz.isAgg30 (by kernel_rfl) Tryz.isAgg30 (by kernel_rfl)) rfl ?_)
  exact ⟨_, _, rfl, zW.nil _ _, zW.nil _ _, B⟩
 | true =>
  have HV := Lib.hid hv; have hno2 : at_ < 1 ∨ (s.pts.length : Int) - 2 < at_ := by
   rcases hno with k | k
   ·rw [hv] at k; cases k
   ·exact k
  clear hv hno; by_cases h1 : at_ < 1
  ·have q1 : decide (at_ < 1) = true := decide_eq_true h1
   go_enter Tryz.func26, Tryz.ntmps26
   go_upto_region 0 with fail
   refine wp_region_lit ?_
   (refine zt (t := 30) rfl _ rfl _ rfl (zV B ?_); clear B; intro b_r2 wn zb zd r2 za zf zk B; (try have zh := r2.lt); (try replace r2 := r2.below (za.mono zb)); (try have zh := r4.lt); (try replace r4 := r4.below (za.mono zb)); (try have zh := r5.lt); (try replace r5 := r5.below (za.mono zb)); (try have zh := rs.lt); (try replace rs := rs.below (za.mono zb)); simp only [zn])
   (refine zr (t := 30) rfl _ (zG _ _ rfl) (zV B ?_); clear B; intro b_r4 wn zb zd r4 za zf zk B; (try have zh := r2.lt); (try replace r2 := r2.below (za.mono zb)); (try have zh := r4.lt); (try replace r4 := r4.below (za.mono zb)); (try have zh := r5.lt); (try replace r5 := r5.below (za.mono zb)); (try have zh := rs.lt); (try replace rs := rs.below (za.mono zb)); simp only [zn])
   (refine zr (t := 30) rfl _ (zG _ _ rfl) (zV B ?_); clear B; intro b_r5 wn zb zd r5 za zf zk B; (try have zh := r2.lt); (try replace r2 := r2.below (za.mono zb)); (try have zh := r4.lt); (try replace r4 := r4.below (za.mono zb)); (try have zh := r5.lt); (try replace r5 := r5.below (za.mono zb)); (try have zh := rs.lt); (try replace rs := rs.below (za.mono zb)); simp only [zn])
   refine zx 1 ?_; refine wpList_nil ?_; have k1 : w.heap.size ≤ b_r2 := by omega
   have k2 : b_r2 < b_r4 := by have := r2.lt; omega
   have k3 : b_r4 < b_r5 := by have := r4.lt; omega
   go_upto_region 1 with fail
   refine wp_region_lit ?_; refine zx 1 ?_
   refine qE (enters_of Tryz.func16 (by kernel_rfl) rfl) (c := jh _ s true _ rs hn HV.out) (h := ?_); rintro e wn ⟨rfl, za⟩; have zf := B.size; have zg := za.size; replace B := B.trans (za.mono B.size)
   (try replace r2 := r2.below za)
   (try replace r4 := r4.below za)
   (try replace r5 := r5.below za)
   refine ⟨_, rfl, ?_⟩; simp only [zn]; refine zx 9 ?_
   refine zH ?hs5_11 ?_
   case hs5_11 => kernel_rfl
   simp only [zn]; refine zx 3 ?_; refine wpList_nil ?_; go_upto_region 2 with fail
   refine wp_region_lit ?_
   (refine zM rfl (.agg #[.slice none 0 0, .int .i64 0, .int .i64 0, .int .u8 0, .int .u8 0, .int .u8 0, .int .u8 0, .bool false, .int .i64 0]) (by kernel_rfl) ?_; simp only [zn])
   (refine zM rfl (.agg #[.slice none 0 0, .int .i64 0, .int .i64 0, .int .u8 0, .int .u8 0, .int .u8 0, .int .u8 0, .bool false, .int .i64 0]) (by kernel_rfl) ?_; simp only [zn])
   (refine zp (t := 30) rfl _ _ rfl _ rfl _ rfl r4 (by kernel_rfl) rfl (by simp [qw, Value.oneCell']) (qt B (by omega) ?_); clear r4 B; intro wn r4 ze zf zg B; (try replace r2 := r2.of_eq (ze.block _ r2.lt (by omega))); (try replace r5 := r5.of_eq (ze.block _ r5.lt (by omega))); simp only [zn])
   (refine zp (t := 30) rfl _ _ rfl _ rfl _ rfl r5 (by kernel_rfl) rfl (by simp [qw, Value.oneCell']) (qt B (by omega) ?_); clear r5 B; intro wn r5 ze zf zg B; (try replace r2 := r2.of_eq (ze.block _ r2.lt (by omega))); (try replace r4 := r4.of_eq (ze.block _ r4.lt (by omega))); simp only [zn])
   refine zx 1 ?_; refine wpList_nil ?_; first | (refine bodyPost_ret (zO (t := 30) (u := 30) rfl _ _ b_r4 b_r5 rfl rfl _ rfl r4 r5 Tryz.isAgg30 (by kernel_rfl) Tryz.isAgg30 (by kernel_rfl)) rfl ?_) | (go_step; refine bodyPost_ret (zO (t := 30) (u := 30) rfl _ _ b_r4 b_r5 rfl rfl _ rfl r4 r5 Tryz.isAgg30 (by kernel_rfl) Tryz.isAgg30 (by kernel_rfl)) rfl ?_) | (go_step; go_step; refine bodyPost_ret (zO (t := 30) (u := 30) rfl _ _ b_r4 b_r5 rfl rfl _ rfl r4 r5 Tryz.isAgg30 (by kernel_rfl) Tryz.isAgg30 (by kernel_rfl)) rfl ?_) | (go_step; go_step; go_step; refine bodyPost_ret (zO (t := 30) (u := 30) rfl _ _ b_r4 b_r5 rfl rfl _ rfl r4 r5 Tryz.isAgg30 (by kernel_rfl) Tryz.isAgg30 (by kernel_rfl)) rfl ?_) | (go_step; go_step; go_step; go_step; refine bodyPost_ret (zO (t := 30) (u := 30) rfl _ _ b_r4 b_r5 rfl rfl _ rfl r4 r5 Tryz.isAgg30 (by kernel_rfl) Tryz.isAgg30 (by kernel_rfl)) rfl ?_) | (go_step; go_step; go_step; go_step; go_step; refine bodyPost_ret (zO (t := 30) (u := 30) rfl _ _ b_r4 b_r5 rfl rfl _ rfl r4 r5 Tryz.isAgg30 (by kernel_rfl) Tryz.isAgg30 (by kernel_rfl)) rfl ?_)
   exact ⟨_, _, rfl, zW.nil _ _, zW.nil _ _, B⟩
  ·have q1 : decide (at_ < 1) = false := decide_eq_false h1
   have q2 : decide ((s.pts.length : Int) - 2 < at_) = true := decide_eq_true (by omega); go_enter Tryz.func26, Tryz.ntmps26
   go_upto_region 0 with fail
   refine wp_region_lit ?_
   (refine zt (t := 30) rfl _ rfl _ rfl (zV B ?_); clear B; intro b_r2 wn zb zd r2 za zf zk B; (try have zh := r2.lt); (try replace r2 := r2.below (za.mono zb)); (try have zh := r4.lt); (try replace r4 := r4.below (za.mono zb)); (try have zh := r5.lt); (try replace r5 := r5.below (za.mono zb)); (try have zh := rs.lt); (try replace rs := rs.below (za.mono zb)); simp only [zn])
   (refine zr (t := 30) rfl _ (zG _ _ rfl) (zV B ?_); clear B; intro b_r4 wn zb zd r4 za zf zk B; (try have zh := r2.lt); (try replace r2 := r2.below (za.mono zb)); (try have zh := r4.lt); (try replace r4 := r4.below (za.mono zb)); (try have zh := r5.lt); (try replace r5 := r5.below (za.mono zb)); (try have zh := rs.lt); (try replace rs := rs.below (za.mono zb)); simp only [zn])
   (refine zr (t := 30) rfl _ (zG _ _ rfl) (zV B ?_); clear B; intro b_r5 wn zb zd r5 za zf zk B; (try have zh := r2.lt); (try replace r2 := r2.below (za.mono zb)); (try have zh := r4.lt); (try replace r4 := r4.below (za.mono zb)); (try have zh := r5.lt); (try replace r5 := r5.below (za.mono zb)); (try have zh := rs.lt); (try replace rs := rs.below (za.mono zb)); simp only [zn])
   refine zx 1 ?_; refine wpList_nil ?_; have k1 : w.heap.size ≤ b_r2 := by omega
   have k2 : b_r2 < b_r4 := by have := r2.lt; omega
   have k3 : b_r4 < b_r5 := by have := r4.lt; omega
   go_upto_region 1 with fail
   refine wp_region_lit ?_; refine zx 1 ?_
   refine qE (enters_of Tryz.func16 (by kernel_rfl) rfl) (c := jh _ s true _ rs hn HV.out) (h := ?_); rintro e wn ⟨rfl, za⟩; have zf := B.size; have zg := za.size; replace B := B.trans (za.mono B.size)
   (try replace r2 := r2.below za)
   (try replace r4 := r4.below za)
   (try replace r5 := r5.below za)
   refine ⟨_, rfl, ?_⟩; simp only [zn]; refine zx 9 ?_
   refine zw (by first | rfl | simp [Region.wanted, yielded]) rfl Tryz.underlying26 rfl ?_; simp only [zn]; refine zx 3 ?_; refine wpList_nil ?_; go_upto_region 2 with fail
   refine wp_region_lit ?_
   (refine zM rfl (.agg #[.slice none 0 0, .int .i64 0, .int .i64 0, .int .u8 0, .int .u8 0, .int .u8 0, .int .u8 0, .bool false, .int .i64 0]) (by kernel_rfl) ?_; simp only [zn])
   (refine zM rfl (.agg #[.slice none 0 0, .int .i64 0, .int .i64 0, .int .u8 0, .int .u8 0, .int .u8 0, .int .u8 0, .bool false, .int .i64 0]) (by kernel_rfl) ?_; simp only [zn])
   (refine zp (t := 30) rfl _ _ rfl _ rfl _ rfl r4 (by kernel_rfl) rfl (by simp [qw, Value.oneCell']) (qt B (by omega) ?_); clear r4 B; intro wn r4 ze zf zg B; (try replace r5 := r5.of_eq (ze.block _ r5.lt (by omega))); simp only [zn])
   (refine zp (t := 30) rfl _ _ rfl _ rfl _ rfl r5 (by kernel_rfl) rfl (by simp [qw, Value.oneCell']) (qt B (by omega) ?_); clear r5 B; intro wn r5 ze zf zg B; (try replace r4 := r4.of_eq (ze.block _ r4.lt (by omega))); simp only [zn])
   refine zx 1 ?_; refine wpList_nil ?_; first | (refine bodyPost_ret (zO (t := 30) (u := 30) rfl _ _ b_r4 b_r5 rfl rfl _ rfl r4 r5 Tryz.isAgg30 (by kernel_rfl) Tryz.isAgg30 (by kernel_rfl)) rfl ?_) | (go_step; refine bodyPost_ret (zO (t := 30) (u := 30) rfl _ _ b_r4 b_r5 rfl rfl _ rfl r4 r5 Tryz.isAgg30 (by kernel_rfl) Tryz.isAgg30 (by kernel_rfl)) rfl ?_) | (go_step; go_step; refine bodyPost_ret (zO (t := 30) (u := 30) rfl _ _ b_r4 b_r5 rfl rfl _ rfl r4 r5 Tryz.isAgg30 (by kernel_rfl) Tryz.isAgg30 (by kernel_rfl)) rfl ?_) | (go_step; go_step; go_step; refine bodyPost_ret (zO (t := 30) (u := 30) rfl _ _ b_r4 b_r5 rfl rfl _ rfl r4 r5 Tryz.isAgg30 (by kernel_rfl) Tryz.isAgg30 (by kernel_rfl)) rfl ?_) | (go_step; go_step; go_step; go_step; refine bodyPost_ret (zO (t := 30) (u := 30) rfl _ _ b_r4 b_r5 rfl rfl _ rfl r4 r5 Tryz.isAgg30 (by kernel_rfl) Tryz.isAgg30 (by kernel_rfl)) rfl ?_) | (go_step; go_step; go_step; go_step; go_step; refine bodyPost_ret (zO (t := 30) (u := 30) rfl _ _ b_r4 b_r5 rfl rfl _ rfl r4 r5 Tryz.isAgg30 (by kernel_rfl) Tryz.isAgg30 (by kernel_rfl)) rfl ?_)
   exact ⟨_, _, rfl, zW.nil _ _, zW.nil _ _, B⟩
theorem zK.taken {α : Type} {k : Nat} {T ST : TypeId} {E : ZQ α k T ST} {g o : Nat} {ls : List α} {w : World} (h : zK E g o ls w) {n c : Nat} (hn : n ≤ ls.length) (hc : n ≤ c) : jF E (.slice (some ⟨g, o, none⟩) n c) (ls.take n) w :=
 .inr (.inl ⟨g, o, c, by rw [List.length_take, Nat.min_eq_left hn], by rw [List.length_take]; omega, fun _ => h.take n⟩)
theorem zK.dropped {α : Type} {k : Nat} {T ST : TypeId} {E : ZQ α k T ST} {g o : Nat} {ls : List α} {w : World} (h : zK E g o ls w) {n m c : Nat} (hm : m = ls.length - n) (hc : m ≤ c) : jF E (.slice (some ⟨g, o + n * k, none⟩) m c) (ls.drop n) w :=
 .inr (.inl ⟨g, o + n * k, c, by rw [List.length_drop, hm], by rw [List.length_drop]; omega, fun _ => h.drop n⟩)
theorem qY {c : Prop} [Decidable c] {p q : Prop} (h : c) (hp : p) : if c then p else q := by rw [if_pos h]; exact hp
theorem zF.drewN {t : TypeId} {w : World} {b : Nat} {cs : Array Value} (h : zF t w b cs) : zF t w.drew b cs := h
section
variable {o : Oper} {a : Act} {w : World} {Q : Exit → Act → World → Prop} {K : Act → World → Prop}
theorem jW {t : TypeId} {cs : Array Value} (x : Operand) (b : Nat) (ho : o.op = .load t x) (hx : a.eval x = .pointer (some ⟨b, 0, none⟩)) (ht : zF t w b cs) (hagg : ∀ w : World, (isAgg t).run Tryz.prog w = .ok true w) (zf : (Tryz.prog.info? t).map (·.size) = some cs.size)
  (h : K (a.put o.dst (.agg cs)) w) : o.wp Tryz.prog a w K Q := by
 unfold Oper.wp execOp
 simp only [ho, hx, zy ht hagg zf, Sem.run_bind, Sem.run_pure, Result.andThen_ok]
 exact h
theorem wj (v : Value) (hrun : (execOp a.eval o).run Tryz.prog w = .ok (.value v) w) (h : K (a.put o.dst v) w) : o.wp Tryz.prog a w K Q := by
 unfold Oper.wp
 rw [hrun]
 exact h
end
set_option maxHeartbeats 8000000 in
/-- Split, done. -/
theorem ZT (v : Value) (s : qv) (k : Nat) (w : World) (rs : jF qD v s.pts w) (hv : qM s = true) (h1 : 1 ≤ k) (h2 : k + 2 ≤ s.pts.length) : Calls Tryz.prog 26 #[.agg (qw v s), .int .i64 (k : Int)] w fun e w' => ∃ va vb, e = .returned (.tuple #[.agg (qw va (u7 s k)), .agg (qw vb (uh s k)), .int .i64 0]) ∧ zW qD w.heap.size va (u7 s k).pts w' ∧ zW qD w.heap.size vb (uh s k).pts w' ∧ Below w.heap.size w w' := by
 have B := Below.refl w.heap.size w
 obtain ⟨a, c, rfl, hc⟩ := rs.len
 have HV := Lib.hid hv
 have HVS := Lib.hid ((jj s).1 hv)
 have hl2 := HVS.out.l2
 have hn : s.pts.length ≤ 17592186044416 := by omega
 obtain ⟨g, o, rfl, pc0⟩ := rs.at (by omega)
 have HPC := Lib.hid pc0
 have hg := pc0.lt
 have q1 : decide ((k : Int) < 1) = false := decide_eq_false (by omega)
 have q2 : decide ((s.pts.length : Int) - 2 < (k : Int)) = false := decide_eq_false (by omega)
 clear hv pc0
 go_enter Tryz.func26, Tryz.ntmps26
 go_upto_region 0 with fail
 refine wp_region_lit ?_
 (refine zt (t := 30) rfl _ rfl _ rfl (zV B ?_); clear B; intro b_r2 wn zb zd r2 za zf zk B; (try have zh := rs.lt); (try replace rs := rs.below (za.mono zb)); simp only [zn])
 (refine zr (t := 30) rfl _ (zG _ _ rfl) (zV B ?_); clear B; intro b_r4 wn zb zd r4 za zf zk B; (try have zh := r2.lt); (try replace r2 := r2.below (za.mono zb)); (try have zh := rs.lt); (try replace rs := rs.below (za.mono zb)); simp only [zn])
 (refine zr (t := 30) rfl _ (zG _ _ rfl) (zV B ?_); clear B; intro b_r5 wn zb zd r5 za zf zk B; (try have zh := r2.lt); (try replace r2 := r2.below (za.mono zb)); (try have zh := r4.lt); (try replace r4 := r4.below (za.mono zb)); (try have zh := rs.lt); (try replace rs := rs.below (za.mono zb)); simp only [zn])
 refine zx 1 ?_
 refine wpList_nil ?_
 have k1 : w.heap.size ≤ b_r2 := by omega
 have k2 : b_r2 < b_r4 := by have := r2.lt; omega
 have k3 : b_r4 < b_r5 := by have := r4.lt; omega
 go_upto_region 1 with fail
 refine wp_region_lit ?_
 refine zx 1 ?_
 refine qE (enters_of Tryz.func16 (by kernel_rfl) rfl) (c := jh _ s true _ rs hn HV.out) (h := ?_)
 rintro e wn ⟨rfl, za⟩
 have zf := B.size
 have zg := za.size
 replace B := B.trans (za.mono B.size)
 (try replace r2 := r2.below za)
 (try replace r4 := r4.below za)
 (try replace r5 := r5.below za)
 refine ⟨_, rfl, ?_⟩
 simp only [zn]
 refine zx 9 ?_
 refine zw (by first | rfl | simp [Region.wanted, yielded]) rfl Tryz.underlying26 rfl ?_
 simp only [zn]
 refine zx 3 ?_
 refine wpList_nil ?_
 go_upto_region 3 with fail
 go_cut [7, 8] from 24 to 28 (fun s7 s8 wx => ∃ b_r7 b_r8, s7 = .pointer (some ⟨b_r7, 0, none⟩) ∧ s8 = .pointer (some ⟨b_r8, 0, none⟩) ∧ Below w.heap.size w wx ∧ b_r5 < b_r7 ∧ b_r5 < b_r8 ∧ b_r7 ≠ b_r8 ∧ zF 30 wx b_r2 (qw (.slice (some ⟨g, o, none⟩) s.pts.length c) s) ∧ zF 30 wx b_r4 #[.slice none 0 0, .int .i64 0, .int .i64 0, .int .u8 0, .int .u8 0, .int .u8 0, .int .u8 0, .bool false, .int .i64 0] ∧ zF 30 wx b_r5 #[.slice none 0 0, .int .i64 0, .int .i64 0, .int .u8 0, .int .u8 0, .int .u8 0, .int .u8 0, .bool false, .int .i64 0] ∧ zF 30 wx b_r7 (qw (.slice (some ⟨g, o, none⟩) s.pts.length c) s) ∧ zF 30 wx b_r8 (qw (.slice (some ⟨g, o, none⟩) s.pts.length c) s))
 case first =>
  have hr5 := r5.lt; have r2B := r2; clear rs; refine vh 6 #[false, false, false, false, false, false] (by kernel_rfl) (by kernel_rfl) ?_; intro wn za; have hX := za; have zf := B.size; have zg := za.size; replace B := B.trans (za.mono B.size); try replace r2 := r2.below za
  try replace r4 := r4.below za
  try replace r5 := r5.below za
  simp only [List.length_cons, List.length_nil, Nat.reduceAdd]; refine qL 0 rfl (by kernel_rfl) ⟨_, zU hX⟩ ?_; intro K hK; try simp only [zN]
  (first | (refine zo (t := 30) rfl _ _ _ rfl (fun w hw => zy (zD r2B w hw) Tryz.isAgg30 (by kernel_rfl)) (by rfl) ?_; simp only [zn]; go_big_quiet_on) | (go_big_quiet_op; go_big_quiet_on))
  simp only [zn]; refine qL 1 rfl (by kernel_rfl) ⟨_, zU hX⟩ ?_; intro K hK; try simp only [zN]
  (first | (refine zo (t := 30) rfl _ _ _ rfl (fun w hw => zy (zD r2B w hw) Tryz.isAgg30 (by kernel_rfl)) (by rfl) ?_; simp only [zn]; go_big_quiet_on) | (go_big_quiet_op; go_big_quiet_on))
  simp only [zn]; refine xA 2 3 rfl rfl (by kernel_rfl) rfl rfl (fun K hK => ?_) (fun K hK => ?_)
  ·skip
   refine zR (t := 30) _ (zG _ _ rfl) ?_; intro b_r7 wn zb zd ht za zg; have zf := B.size; have hsx := hX.size; replace B := B.trans (za.mono (by omega)); replace hX := hX.trans (za.mono (by omega)); try replace r2 := r2.below (za.mono zb)
   try replace r4 := r4.below (za.mono zb)
   try replace r5 := r5.below (za.mono zb)
   try replace r7 := r7.below (za.mono zb)
   try replace r8 := r8.below (za.mono zb)
   have r7 := ht; clear ht; refine hK _ _ ⟨fun _ => ⟨_, zU hX⟩, ?_⟩; clear hK K; simp only [zn]; refine qk 3 rfl (by kernel_rfl) rfl (fun K hK => ?_); refine zR (t := 30) _ (zG _ _ rfl) ?_; intro b_r8 wn zb zd ht za zg; have zf := B.size; have hsx := hX.size; replace B := B.trans (za.mono (by omega)); replace hX := hX.trans (za.mono (by omega)); try replace r2 := r2.below (za.mono zb)
   try replace r4 := r4.below (za.mono zb)
   try replace r5 := r5.below (za.mono zb)
   try replace r7 := r7.below (za.mono zb)
   try replace r8 := r8.below (za.mono zb)
   have r8 := ht; clear ht; refine hK _ _ ⟨fun _ => ⟨_, zU hX⟩, ?_⟩; clear hK K; simp only [zn]; refine qk 4 rfl (by kernel_rfl) rfl (fun K hK => ?_); refine qO (t := 30) _ _ _ _ rfl rfl rfl r7 (by kernel_rfl) rfl (by simp [qw, Value.oneCell']) ?_; clear r7; intro wn r7 ze zg; have zf := B.size; have hsx := hX.size; replace zg := Nat.le_of_eq zg.symm; replace B := qN.below B ze (by omega) B.size; replace hX := qN.below hX ze (by omega) hX.size; replace r2 := r2.of_eq (ze.block _ r2.lt (by omega)); replace r4 := r4.of_eq (ze.block _ r4.lt (by omega)); replace r5 := r5.of_eq (ze.block _ r5.lt (by omega)); replace r8 := r8.of_eq (ze.block _ r8.lt (by omega)); refine hK _ _ ⟨fun _ => ⟨_, zU hX⟩, ?_⟩; clear hK K; simp only [zn]
   refine qk 5 rfl (by kernel_rfl) rfl (fun K hK => ?_); refine qO (t := 30) _ _ _ _ rfl rfl rfl r8 (by kernel_rfl) rfl (by simp [qw, Value.oneCell']) ?_; clear r8; intro wn r8 ze zg; have zf := B.size; have hsx := hX.size; replace zg := Nat.le_of_eq zg.symm; replace B := qN.below B ze (by omega) B.size; replace hX := qN.below hX ze (by omega) hX.size; replace r2 := r2.of_eq (ze.block _ r2.lt (by omega)); replace r4 := r4.of_eq (ze.block _ r4.lt (by omega)); replace r5 := r5.of_eq (ze.block _ r5.lt (by omega)); replace r7 := r7.of_eq (ze.block _ r7.lt (by omega)); refine hK _ _ ⟨fun _ => ⟨_, zU hX⟩, ?_⟩; clear hK K; simp only [zn]; refine je (by kernel_rfl) (by kernel_rfl) ?_; simp only [List.drop_succ_cons, List.drop_zero]; refine wpList_nil ?_; refine zQ.normal ?_; go_wp2_with fail
   go_meet; exact ⟨b_r7, b_r8, rfl, rfl, B, by omega, by omega, by omega, r2, r4, r5, r7, r8⟩
  ·skip
   refine zR (t := 30) _ (zG _ _ rfl) ?_; intro b_r8 wn zb zd ht za zg; have zf := B.size; have hsx := hX.size; replace B := B.trans (za.mono (by omega)); replace hX := hX.trans (za.mono (by omega)); try replace r2 := r2.below (za.mono zb)
   try replace r4 := r4.below (za.mono zb)
   try replace r5 := r5.below (za.mono zb)
   try replace r7 := r7.below (za.mono zb)
   try replace r8 := r8.below (za.mono zb)
   have r8 := ht; clear ht; refine hK _ _ ⟨fun _ => ⟨_, zU hX⟩, ?_⟩; clear hK K; simp only [zn]; refine qk 2 rfl (by kernel_rfl) rfl (fun K hK => ?_); refine zR (t := 30) _ (zG _ _ rfl) ?_; intro b_r7 wn zb zd ht za zg; have zf := B.size; have hsx := hX.size; replace B := B.trans (za.mono (by omega)); replace hX := hX.trans (za.mono (by omega)); try replace r2 := r2.below (za.mono zb)
   try replace r4 := r4.below (za.mono zb)
   try replace r5 := r5.below (za.mono zb)
   try replace r7 := r7.below (za.mono zb)
   try replace r8 := r8.below (za.mono zb)
   have r7 := ht; clear ht; refine hK _ _ ⟨fun _ => ⟨_, zU hX⟩, ?_⟩; clear hK K; simp only [zn]; refine qk 4 rfl (by kernel_rfl) rfl (fun K hK => ?_); refine qO (t := 30) _ _ _ _ rfl rfl rfl r7 (by kernel_rfl) rfl (by simp [qw, Value.oneCell']) ?_; clear r7; intro wn r7 ze zg; have zf := B.size; have hsx := hX.size; replace zg := Nat.le_of_eq zg.symm; replace B := qN.below B ze (by omega) B.size; replace hX := qN.below hX ze (by omega) hX.size; replace r2 := r2.of_eq (ze.block _ r2.lt (by omega)); replace r4 := r4.of_eq (ze.block _ r4.lt (by omega)); replace r5 := r5.of_eq (ze.block _ r5.lt (by omega)); replace r8 := r8.of_eq (ze.block _ r8.lt (by omega)); refine hK _ _ ⟨fun _ => ⟨_, zU hX⟩, ?_⟩; clear hK K; simp only [zn]
   refine qk 5 rfl (by kernel_rfl) rfl (fun K hK => ?_); refine qO (t := 30) _ _ _ _ rfl rfl rfl r8 (by kernel_rfl) rfl (by simp [qw, Value.oneCell']) ?_; clear r8; intro wn r8 ze zg; have zf := B.size; have hsx := hX.size; replace zg := Nat.le_of_eq zg.symm; replace B := qN.below B ze (by omega) B.size; replace hX := qN.below hX ze (by omega) hX.size; replace r2 := r2.of_eq (ze.block _ r2.lt (by omega)); replace r4 := r4.of_eq (ze.block _ r4.lt (by omega)); replace r5 := r5.of_eq (ze.block _ r5.lt (by omega)); replace r7 := r7.of_eq (ze.block _ r7.lt (by omega)); refine hK _ _ ⟨fun _ => ⟨_, zU hX⟩, ?_⟩; clear hK K; simp only [zn]; refine je (by kernel_rfl) (by kernel_rfl) ?_; simp only [List.drop_succ_cons, List.drop_zero]; refine wpList_nil ?_; refine zQ.normal ?_; go_wp2_with fail
   go_meet; exact ⟨b_r7, b_r8, rfl, rfl, B, by omega, by omega, by omega, r2, r4, r5, r7, r8⟩
 case rest =>
 clear B r2 r4 r5
 obtain ⟨b_r7, b_r8, rfl, rfl, B, k4, k5, k6, r2, r4, r5, r7, r8⟩ := hcut
 have pc := HPC.out.of_eq (B.block _ HPC.out.lt)
 have r7l := r7.lt
 have r8l := r8.lt
 clear rs
 obtain ⟨PA, hPA⟩ : ∃ l, s.pts.take (k + 1) = l := ⟨_, rfl⟩
 obtain ⟨PB, hPB⟩ : ∃ l, s.pts.drop k = l := ⟨_, rfl⟩
 have HLA := Lib.hid (show PA.length = k + 1 from by rw [← hPA, List.length_take]; omega)
 have HLB := Lib.hid (show PB.length = s.pts.length - k from by rw [← hPB, List.length_drop])
 have HPA := Lib.hid hPA
 have HPB := Lib.hid hPB
 have HOKA := Lib.hid (show ∀ a ∈ PA, Zl a from fun a ha => HVS.out.ok a (by rw [← hPA] at ha; exact List.mem_of_mem_take ha))
 obtain ⟨t, ht⟩ : ∃ t, jI PA = t := ⟨_, rfl⟩
 have HT := Lib.hid ht
 have htb : 0 ≤ t ∧ t ≤ 189812544 := by
  have h3 := HVS.out.pre (show k < s.pts.length by omega); have h4 := vQ (s := s) (at_ := k) (by omega); rw [hPA, ht] at h4; omega
 have HPH := Lib.hid (show uC s k = if s.pha - t < 0 then s.pha - t + (s.spa - 1 - (s.pha - t)) / s.spa * s.spa else s.pha - t from by unfold uC; rw [hPA, ht])
 have RA := Lib.hid (show ∀ W, zK qD g o s.pts W → jF qD (.slice (some ⟨g, o, none⟩) (k + 1) c) PA W from fun W h => by rw [← hPA]; exact h.taken (by omega) (by omega))
 have RB := Lib.hid (show ∀ W, zK qD g o s.pts W → jF qD (.slice (some ⟨g, o + k * 3, none⟩) (s.pts.length - k) (c - k)) PB W from fun W h => by rw [← hPB]; exact h.dropped rfl (by omega))
 have hs1 := HVS.out.s1
 have hs2 := HVS.out.s2
 have hq1 := HVS.out.p1
 have hq2 := HVS.out.p2
 have hkc : ¬ c = k := by omega
 have u1 : decide (k ≤ c) = true := decide_eq_true (by omega)
 have u2 : decide (k + 1 ≤ c) = true := decide_eq_true (by omega)
 have u3 : decide (k ≤ s.pts.length) = true := decide_eq_true (by omega)
 clear hPA hPB ht
 obtain ⟨b0, hb0⟩ : ∃ b, b = wc.heap.size := ⟨_, rfl⟩
 have hb7 : b_r7 < b0 := by omega
 have hb8 : b_r8 < b0 := by omega
 have HB0 := Lib.hid hb0
 clear hb0
 go_upto_region 4 with fail
 refine wp_region_lit ?_
 refine zx 5 ?_
 refine qE (enters_of Tryz.func69 (by kernel_rfl) rfl) (c := Xm _ PA _ (RA.out _ pc) (by have := HLA.out; omega)) (h := ?_)
 rintro e wn ⟨a4, c4, rfl, o7, za⟩
 have zf := B.size
 have zg := za.size
 replace B := B.trans (za.mono B.size)
 (try replace r2 := r2.below za)
 (try replace r4 := r4.below za)
 (try replace r5 := r5.below za)
 (try replace r7 := r7.below za)
 (try replace r8 := r8.below za)
 (try replace pc := pc.below za)
 replace o7 := o7.mono (show b0 ≤ _ from by have := HB0.out; omega)
 refine ⟨_, rfl, ?_⟩
 simp only [zn]
 refine zx 1 ?_
 (refine jQ (t := 30) rfl _ _ rfl _ 0 rfl _ _ _ rfl r7 rfl (qt B (by omega) ?_); clear r7 B; intro wn r7 ze zf zg B; replace o7 := o7.chg ze (by omega); (try replace r2 := r2.of_eq (ze.block _ r2.lt (by omega))); (try replace r4 := r4.of_eq (ze.block _ r4.lt (by omega))); (try replace r5 := r5.of_eq (ze.block _ r5.lt (by omega))); (try replace r8 := r8.of_eq (ze.block _ r8.lt (by omega))); (try replace pc := pc.of_eq (ze.block _ pc.lt (by omega))); simp only [zn])
 refine wpList_nil ?_
 replace r7 : zF 30 _ b_r7 (qw (.slice a4 PA.length c4) s) := r7
 go_upto_region 5 with fail
 refine wp_region_lit ?_
 refine zx 4 ?_
 refine qE (enters_of Tryz.func69 (by kernel_rfl) rfl) (c := Xm _ PB _ (RB.out _ pc) (by have := HLB.out; omega)) (h := ?_)
 rintro e wn ⟨a5, c5, rfl, o8, za⟩
 have zf := B.size
 have zg := za.size
 replace B := B.trans (za.mono B.size)
 (try replace r2 := r2.below za)
 (try replace r4 := r4.below za)
 (try replace r5 := r5.below za)
 (try replace r7 := r7.below za)
 (try replace r8 := r8.below za)
 (try replace pc := pc.below za)
 (try replace o7 := o7.below za)
 replace o8 := o8.mono (show b0 ≤ _ from by have := HB0.out; omega)
 refine ⟨_, rfl, ?_⟩
 simp only [zn]
 refine zx 1 ?_
 (refine jQ (t := 30) rfl _ _ rfl _ 0 rfl _ _ _ rfl r8 rfl (qt B (by omega) ?_); clear r8 B; intro wn r8 ze zf zg B; replace o7 := o7.chg ze (by omega); replace o8 := o8.chg ze (by omega); (try replace r2 := r2.of_eq (ze.block _ r2.lt (by omega))); (try replace r4 := r4.of_eq (ze.block _ r4.lt (by omega))); (try replace r5 := r5.of_eq (ze.block _ r5.lt (by omega))); (try replace r7 := r7.of_eq (ze.block _ r7.lt (by omega))); (try replace pc := pc.of_eq (ze.block _ pc.lt (by omega))); simp only [zn])
 refine wpList_nil ?_
 replace r8 : zF 30 _ b_r8 (qw (.slice a5 PB.length c5) s) := r8
 clear pc
 go_upto_region 6 with fail
 have rs7 := o7.rs
 try have lx_r2 := r2.lt
 try have lx_r4 := r4.lt
 try have lx_r5 := r5.lt
 try have lx_r7 := r7.lt
 try have lx_r8 := r8.lt
 try have lx_o7 := o7.lt
 try have lx_o8 := o8.lt
 try have lx_rs7 := rs7.lt
 refine zL 7 [(4, zP ?v1_4)] (by kernel_rfl) (by kernel_rfl) (by kernel_rfl) ?_
 rotate_left 1
 simp only [jU, Nat.reduceAdd]
 refine vC 4 ?_
 refine zz (by rfl) (by first | rfl | simp [Region.wanted, yielded]) ?_ ?_
 ·intro wn za hE Kx hKx
  have zf := B.size; have zg := za.size; replace B := B.trans (za.mono B.size)
  (try replace r2 := r2.below za)
  (try replace r4 := r4.below za)
  (try replace r5 := r5.below za)
  (try replace r7 := r7.below za)
  (try replace r8 := r8.below za)
  (try replace o7 := o7.below za)
  (try replace o8 := o8.below za)
  (try replace rs7 := rs7.below za)
  refine zS rfl (enters_of Tryz.func54 (by kernel_rfl) rfl) (by simp only [Act.eval, qI]; rfl) ?_
  refine (Va _ PA t wn rs7 (by have := HLA.out; omega) HOKA.out HT.out).mono ?_
  rintro e wm ⟨rfl, zl⟩; refine ⟨_, rfl, ?_⟩; have hz := hKx () wm trivial zl
  dsimp only [zP] at hz
  exact hz
 rintro ⟨⟩
 dsimp only [zP]
 simp only [zn]
 refine vC 2 ?_
 refine qz ?_
 intro wn za hE
 have zf := B.size
 have zg := za.size
 replace B := B.trans (za.mono B.size)
 (try replace r2 := r2.below za)
 (try replace r4 := r4.below za)
 (try replace r5 := r5.below za)
 (try replace r7 := r7.below za)
 (try replace r8 := r8.below za)
 (try replace o7 := o7.below za)
 (try replace o8 := o8.below za)
 (try replace rs7 := rs7.below za)
 clear hE
 try simp only [List.drop_succ_cons, List.drop_zero]
 go_wp2_with (first | (refine jw (t := 30) rfl _ _ rfl _ 8 rfl _ rfl r8 rfl (qt B (by omega) ?_); clear r8 B; intro wn r8 ze zf zg B; replace o7 := o7.chg ze (by omega); replace o8 := o8.chg ze (by omega); (try replace r2 := r2.of_eq (ze.block _ r2.lt (by omega))); (try replace r4 := r4.of_eq (ze.block _ r4.lt (by omega))); (try replace r5 := r5.of_eq (ze.block _ r5.lt (by omega))); (try replace r7 := r7.of_eq (ze.block _ r7.lt (by omega))); simp only [zn]) | fail)
 refine zQ.normal ?_
 replace r8 : zF 30 _ b_r8 (qw (.slice a5 PB.length c5) ⟨s.pts, s.rad, s.spa, s.col, s.era, s.pha - t⟩) := r8
 clear rs7
 have hbw : w.heap.size ≤ b0 := by omega
 go_upto_region 7 with fail
 by_cases hneg : s.pha - t < 0
 ·have q3 : decide (s.pha - t < 0) = true := decide_eq_true hneg
  have hnn : 0 ≤ s.spa - 1 - (s.pha - t) := by omega
  have hdb : 0 ≤ (s.spa - 1 - (s.pha - t)) / s.spa := Int.ediv_nonneg hnn (by omega); have hdb2 : (s.spa - 1 - (s.pha - t)) / s.spa ≤ s.spa - 1 - (s.pha - t) := Int.ediv_le_self _ hnn; have hmb := jL (a := (s.spa - 1 - (s.pha - t)) / s.spa) (b := s.spa) (m := 200000000) (k := 4096) hdb (by omega) (by omega) hs2; have e0 : s.spa ≠ 0 := by omega
  have e00 : (s.spa == 0) = false := by simp; omega
  obtain ⟨ph, hph⟩ : ∃ p, s.pha - t + (s.spa - 1 - (s.pha - t)) / s.spa * s.spa = p := ⟨_, rfl⟩; have HPHV := Lib.hid hph; have HPV := Lib.hid (show uC s k = ph from by rw [HPH.out, if_pos hneg, hph]); clear hph; refine wp_region_lit ?_; refine zx 3 ?_
  refine wpList_nil ?_; go_upto_region 8 with fail
  try have lx_r2 := r2.lt
  try have lx_r4 := r4.lt
  try have lx_r5 := r5.lt
  try have lx_r7 := r7.lt
  try have lx_r8 := r8.lt
  try have lx_o7 := o7.lt
  try have lx_o8 := o8.lt
  refine zL 16 [] (by kernel_rfl) (by kernel_rfl) (by kernel_rfl) ?_
  rotate_left 0
  simp only [jU, Nat.reduceAdd]; refine vC 16 ?_
  refine qz ?_; intro wn za hE; have zf := B.size; have zg := za.size; replace B := B.trans (za.mono B.size)
  (try replace r2 := r2.below za)
  (try replace r4 := r4.below za)
  (try replace r5 := r5.below za)
  (try replace r7 := r7.below za)
  (try replace r8 := r8.below za)
  (try replace o7 := o7.below za)
  (try replace o8 := o8.below za)
  clear hE; try simp only [List.drop_succ_cons, List.drop_zero]
  go_wp2_with (first | (refine jw (t := 30) rfl _ _ rfl _ 8 rfl _ rfl r8 rfl (qt B (by omega) ?_); clear r8 B; intro wn r8 ze zf zg B; replace o7 := o7.chg ze (by omega); replace o8 := o8.chg ze (by omega); (try replace r2 := r2.of_eq (ze.block _ r2.lt (by omega))); (try replace r4 := r4.of_eq (ze.block _ r4.lt (by omega))); (try replace r5 := r5.of_eq (ze.block _ r5.lt (by omega))); (try replace r7 := r7.of_eq (ze.block _ r7.lt (by omega))); simp only [zn]) | fail)
  refine zQ.normal ?_; replace r8 : zF 30 _ b_r8 (qw (.slice a5 PB.length c5) ⟨s.pts, s.rad, s.spa, s.col, s.era, s.pha - t + (s.spa - 1 - (s.pha - t)) / s.spa * s.spa⟩) := r8; rw [HPHV.out] at r8; go_upto_region 9 with fail
  go_cut [6] from 9 to 67 (fun s6 wx => s6 = .int .i64 0 ∧ Below w.heap.size w wx ∧ zW qD b0 (.slice a4 PA.length c4) PA wx ∧ zW qD b0 (.slice a5 PB.length c5) PB wx ∧ zF 30 wx b_r4 (qw (.slice a4 PA.length c4) s) ∧ zF 30 wx b_r5 (qw (.slice a5 PB.length c5) ⟨s.pts, s.rad, s.spa, s.col, s.era, ph⟩))
  case first =>
   refine wp_region_any (by kernel_rfl) ?_; change wpAny _ _ _ _ _ _ _ (World.drew _)
   replace B := B.drew; replace r2 := zF.drewN r2; replace r4 := zF.drewN r4; replace r5 := zF.drewN r5; replace r7 := zF.drewN r7; replace r8 := zF.drewN r8; replace o7 := o7.below ((Below.refl _ _).drew); replace o8 := o8.below ((Below.refl _ _).drew)
   generalize wn.drew = w7 at *
   refine wpAny_ready (rs := [0, 1]) (by kernel_rfl) (by simp) ?_; refine AllReady.cons rfl (fun K hK => qY rfl ?_) ?_
   ·simp only [zN]
    refine jW (t := 30) _ _ rfl rfl r7 Tryz.isAgg30 (by kernel_rfl) ?_; refine hK _ _ ?_; simp only [zn]; clear hK K; refine wpAny_ready (rs := [1, 2]) (by kernel_rfl) (by simp) ?_; refine AllReady.cons rfl (fun K hK => qY rfl ?_) ?_
    ·simp only [zN]
     refine jW (t := 30) _ _ rfl rfl r8 Tryz.isAgg30 (by kernel_rfl) ?_; refine hK _ _ ?_; simp only [zn]; clear hK K; refine wpAny_ready (rs := [2]) (by kernel_rfl) (by simp) ?_; refine AllReady.cons rfl (fun K hK => qY rfl ?_) ?_
     ·simp only [zN]
      refine qO (t := 30) _ _ _ _ rfl rfl rfl r4 (by kernel_rfl) rfl (by simp [qw, Value.oneCell']) ?_; clear r4; intro wn r4 ze zg; have zf := B.size; replace zg := Nat.le_of_eq zg.symm; replace B := qN.below B ze (by omega) B.size; replace o7 := o7.chg ze (by omega); replace o8 := o8.chg ze (by omega); replace r2 := r2.of_eq (ze.block _ r2.lt (by omega)); replace r5 := r5.of_eq (ze.block _ r5.lt (by omega)); replace r7 := r7.of_eq (ze.block _ r7.lt (by omega)); replace r8 := r8.of_eq (ze.block _ r8.lt (by omega)); refine hK _ _ ?_; simp only [zn]; clear hK K; refine wpAny_ready (rs := [3]) (by kernel_rfl) (by simp) ?_; refine AllReady.cons rfl (fun K hK => qY rfl ?_) ?_
      ·simp only [zN]
       refine qO (t := 30) _ _ _ _ rfl rfl rfl r5 (by kernel_rfl) rfl (by simp [qw, Value.oneCell']) ?_; clear r5; intro wn r5 ze zg; have zf := B.size; replace zg := Nat.le_of_eq zg.symm; replace B := qN.below B ze (by omega) B.size; replace o7 := o7.chg ze (by omega); replace o8 := o8.chg ze (by omega); replace r2 := r2.of_eq (ze.block _ r2.lt (by omega)); replace r4 := r4.of_eq (ze.block _ r4.lt (by omega)); replace r7 := r7.of_eq (ze.block _ r7.lt (by omega)); replace r8 := r8.of_eq (ze.block _ r8.lt (by omega)); refine hK _ _ ?_; simp only [zn]; clear hK K; refine wpAny_ready (rs := [4]) (by kernel_rfl) (by simp) ?_; refine AllReady.cons rfl (fun K hK => qY rfl ?_) ?_
       ·simp only [zN]
        refine wj (_) (by rfl) ?_; refine hK _ _ ?_; simp only [zn]; clear hK K; refine wpAny_done (by kernel_rfl) ?_ _; go_wp2_with fail
        go_meet; exact ⟨rfl, B, o7, o8, r4, r5⟩
       exact AllReady.nil
      exact AllReady.nil
     exact AllReady.nil
    refine AllReady.cons rfl (fun K hK => qY rfl ?_) ?_
    ·simp only [zN]
     refine qO (t := 30) _ _ _ _ rfl rfl rfl r4 (by kernel_rfl) rfl (by simp [qw, Value.oneCell']) ?_; clear r4; intro wn r4 ze zg; have zf := B.size; replace zg := Nat.le_of_eq zg.symm; replace B := qN.below B ze (by omega) B.size; replace o7 := o7.chg ze (by omega); replace o8 := o8.chg ze (by omega); replace r2 := r2.of_eq (ze.block _ r2.lt (by omega)); replace r5 := r5.of_eq (ze.block _ r5.lt (by omega)); replace r7 := r7.of_eq (ze.block _ r7.lt (by omega)); replace r8 := r8.of_eq (ze.block _ r8.lt (by omega)); refine hK _ _ ?_; simp only [zn]; clear hK K; refine wpAny_ready (rs := [1]) (by kernel_rfl) (by simp) ?_; refine AllReady.cons rfl (fun K hK => qY rfl ?_) ?_
     ·simp only [zN]
      refine jW (t := 30) _ _ rfl rfl r8 Tryz.isAgg30 (by kernel_rfl) ?_; refine hK _ _ ?_; simp only [zn]; clear hK K; refine wpAny_ready (rs := [3]) (by kernel_rfl) (by simp) ?_; refine AllReady.cons rfl (fun K hK => qY rfl ?_) ?_
      ·simp only [zN]
       refine qO (t := 30) _ _ _ _ rfl rfl rfl r5 (by kernel_rfl) rfl (by simp [qw, Value.oneCell']) ?_; clear r5; intro wn r5 ze zg; have zf := B.size; replace zg := Nat.le_of_eq zg.symm; replace B := qN.below B ze (by omega) B.size; replace o7 := o7.chg ze (by omega); replace o8 := o8.chg ze (by omega); replace r2 := r2.of_eq (ze.block _ r2.lt (by omega)); replace r4 := r4.of_eq (ze.block _ r4.lt (by omega)); replace r7 := r7.of_eq (ze.block _ r7.lt (by omega)); replace r8 := r8.of_eq (ze.block _ r8.lt (by omega)); refine hK _ _ ?_; simp only [zn]; clear hK K; refine wpAny_ready (rs := [4]) (by kernel_rfl) (by simp) ?_; refine AllReady.cons rfl (fun K hK => qY rfl ?_) ?_
       ·simp only [zN]
        refine wj (_) (by rfl) ?_; refine hK _ _ ?_; simp only [zn]; clear hK K; refine wpAny_done (by kernel_rfl) ?_ _; go_wp2_with fail
        go_meet; exact ⟨rfl, B, o7, o8, r4, r5⟩
       exact AllReady.nil
      exact AllReady.nil
     exact AllReady.nil
    exact AllReady.nil
   refine AllReady.cons rfl (fun K hK => qY rfl ?_) ?_
   ·simp only [zN]
    refine jW (t := 30) _ _ rfl rfl r8 Tryz.isAgg30 (by kernel_rfl) ?_; refine hK _ _ ?_; simp only [zn]; clear hK K; refine wpAny_ready (rs := [0]) (by kernel_rfl) (by simp) ?_; refine AllReady.cons rfl (fun K hK => qY rfl ?_) ?_
    ·simp only [zN]
     refine jW (t := 30) _ _ rfl rfl r7 Tryz.isAgg30 (by kernel_rfl) ?_; refine hK _ _ ?_; simp only [zn]; clear hK K; refine wpAny_ready (rs := [2]) (by kernel_rfl) (by simp) ?_; refine AllReady.cons rfl (fun K hK => qY rfl ?_) ?_
     ·simp only [zN]
      refine qO (t := 30) _ _ _ _ rfl rfl rfl r4 (by kernel_rfl) rfl (by simp [qw, Value.oneCell']) ?_; clear r4; intro wn r4 ze zg; have zf := B.size; replace zg := Nat.le_of_eq zg.symm; replace B := qN.below B ze (by omega) B.size; replace o7 := o7.chg ze (by omega); replace o8 := o8.chg ze (by omega); replace r2 := r2.of_eq (ze.block _ r2.lt (by omega)); replace r5 := r5.of_eq (ze.block _ r5.lt (by omega)); replace r7 := r7.of_eq (ze.block _ r7.lt (by omega)); replace r8 := r8.of_eq (ze.block _ r8.lt (by omega)); refine hK _ _ ?_; simp only [zn]; clear hK K; refine wpAny_ready (rs := [3]) (by kernel_rfl) (by simp) ?_; refine AllReady.cons rfl (fun K hK => qY rfl ?_) ?_
      ·simp only [zN]
       refine qO (t := 30) _ _ _ _ rfl rfl rfl r5 (by kernel_rfl) rfl (by simp [qw, Value.oneCell']) ?_; clear r5; intro wn r5 ze zg; have zf := B.size; replace zg := Nat.le_of_eq zg.symm; replace B := qN.below B ze (by omega) B.size; replace o7 := o7.chg ze (by omega); replace o8 := o8.chg ze (by omega); replace r2 := r2.of_eq (ze.block _ r2.lt (by omega)); replace r4 := r4.of_eq (ze.block _ r4.lt (by omega)); replace r7 := r7.of_eq (ze.block _ r7.lt (by omega)); replace r8 := r8.of_eq (ze.block _ r8.lt (by omega)); refine hK _ _ ?_; simp only [zn]; clear hK K; refine wpAny_ready (rs := [4]) (by kernel_rfl) (by simp) ?_; refine AllReady.cons rfl (fun K hK => qY rfl ?_) ?_
       ·simp only [zN]
        refine wj (_) (by rfl) ?_; refine hK _ _ ?_; simp only [zn]; clear hK K; refine wpAny_done (by kernel_rfl) ?_ _; go_wp2_with fail
        go_meet; exact ⟨rfl, B, o7, o8, r4, r5⟩
       exact AllReady.nil
      exact AllReady.nil
     exact AllReady.nil
    exact AllReady.nil
   exact AllReady.nil
  case rest =>
  clear B o7 o8 r4 r5; obtain ⟨rfl, B, o7, o8, r4, r5⟩ := hcut; first | (refine bodyPost_ret (zO (t := 30) (u := 30) rfl _ _ b_r4 b_r5 rfl rfl _ rfl r4 r5 Tryz.isAgg30 (by kernel_rfl) Tryz.isAgg30 (by kernel_rfl)) rfl ?_) | (go_step; refine bodyPost_ret (zO (t := 30) (u := 30) rfl _ _ b_r4 b_r5 rfl rfl _ rfl r4 r5 Tryz.isAgg30 (by kernel_rfl) Tryz.isAgg30 (by kernel_rfl)) rfl ?_) | (go_step; go_step; refine bodyPost_ret (zO (t := 30) (u := 30) rfl _ _ b_r4 b_r5 rfl rfl _ rfl r4 r5 Tryz.isAgg30 (by kernel_rfl) Tryz.isAgg30 (by kernel_rfl)) rfl ?_) | (go_step; go_step; go_step; refine bodyPost_ret (zO (t := 30) (u := 30) rfl _ _ b_r4 b_r5 rfl rfl _ rfl r4 r5 Tryz.isAgg30 (by kernel_rfl) Tryz.isAgg30 (by kernel_rfl)) rfl ?_) | (go_step; go_step; go_step; go_step; refine bodyPost_ret (zO (t := 30) (u := 30) rfl _ _ b_r4 b_r5 rfl rfl _ rfl r4 r5 Tryz.isAgg30 (by kernel_rfl) Tryz.isAgg30 (by kernel_rfl)) rfl ?_) | (go_step; go_step; go_step; go_step; go_step; refine bodyPost_ret (zO (t := 30) (u := 30) rfl _ _ b_r4 b_r5 rfl rfl _ rfl r4 r5 Tryz.isAgg30 (by kernel_rfl) Tryz.isAgg30 (by kernel_rfl)) rfl ?_)
  have e4 : qw (.slice a4 PA.length c4) s = qw (.slice a4 PA.length c4) (u7 s k) := rfl; have e5 : qw (.slice a5 PB.length c5) ⟨s.pts, s.rad, s.spa, s.col, s.era, ph⟩ = qw (.slice a5 PB.length c5) (uh s k) := by rw [← HPV.out]; rfl
  rw [e4, e5]; exact ⟨_, _, rfl, by show zW qD _ _ (s.pts.take (k + 1)) _; rw [HPA.out]; exact o7.mono (by have := HB0.out; omega), by show zW qD _ _ (s.pts.drop k) _; rw [HPB.out]; exact o8.mono (by have := HB0.out; omega), B⟩
 ·have q3 : decide (s.pha - t < 0) = false := decide_eq_false hneg
  obtain ⟨ph, hph⟩ : ∃ p, s.pha - t = p := ⟨_, rfl⟩; have HPV := Lib.hid (show uC s k = ph from by rw [HPH.out, if_neg hneg, hph]); have HPHV := Lib.hid hph; clear hph; refine wp_region_lit ?_; refine zx 3 ?_
  refine wpList_nil ?_; rw [HPHV.out] at r8; go_upto_region 9 with fail
  go_cut [6] from 9 to 67 (fun s6 wx => s6 = .int .i64 0 ∧ Below w.heap.size w wx ∧ zW qD b0 (.slice a4 PA.length c4) PA wx ∧ zW qD b0 (.slice a5 PB.length c5) PB wx ∧ zF 30 wx b_r4 (qw (.slice a4 PA.length c4) s) ∧ zF 30 wx b_r5 (qw (.slice a5 PB.length c5) ⟨s.pts, s.rad, s.spa, s.col, s.era, ph⟩))
  case first =>
   refine wp_region_any (by kernel_rfl) ?_; change wpAny _ _ _ _ _ _ _ (World.drew _)
   replace B := B.drew; replace r2 := zF.drewN r2; replace r4 := zF.drewN r4; replace r5 := zF.drewN r5; replace r7 := zF.drewN r7; replace r8 := zF.drewN r8; replace o7 := o7.below ((Below.refl _ _).drew); replace o8 := o8.below ((Below.refl _ _).drew)
   generalize wn.drew = w7 at *
   refine wpAny_ready (rs := [0, 1]) (by kernel_rfl) (by simp) ?_; refine AllReady.cons rfl (fun K hK => qY rfl ?_) ?_
   ·simp only [zN]
    refine jW (t := 30) _ _ rfl rfl r7 Tryz.isAgg30 (by kernel_rfl) ?_; refine hK _ _ ?_; simp only [zn]; clear hK K; refine wpAny_ready (rs := [1, 2]) (by kernel_rfl) (by simp) ?_; refine AllReady.cons rfl (fun K hK => qY rfl ?_) ?_
    ·simp only [zN]
     refine jW (t := 30) _ _ rfl rfl r8 Tryz.isAgg30 (by kernel_rfl) ?_; refine hK _ _ ?_; simp only [zn]; clear hK K; refine wpAny_ready (rs := [2]) (by kernel_rfl) (by simp) ?_; refine AllReady.cons rfl (fun K hK => qY rfl ?_) ?_
     ·simp only [zN]
      refine qO (t := 30) _ _ _ _ rfl rfl rfl r4 (by kernel_rfl) rfl (by simp [qw, Value.oneCell']) ?_; clear r4; intro wn r4 ze zg; have zf := B.size; replace zg := Nat.le_of_eq zg.symm; replace B := qN.below B ze (by omega) B.size; replace o7 := o7.chg ze (by omega); replace o8 := o8.chg ze (by omega); replace r2 := r2.of_eq (ze.block _ r2.lt (by omega)); replace r5 := r5.of_eq (ze.block _ r5.lt (by omega)); replace r7 := r7.of_eq (ze.block _ r7.lt (by omega)); replace r8 := r8.of_eq (ze.block _ r8.lt (by omega)); refine hK _ _ ?_; simp only [zn]; clear hK K; refine wpAny_ready (rs := [3]) (by kernel_rfl) (by simp) ?_; refine AllReady.cons rfl (fun K hK => qY rfl ?_) ?_
      ·simp only [zN]
       refine qO (t := 30) _ _ _ _ rfl rfl rfl r5 (by kernel_rfl) rfl (by simp [qw, Value.oneCell']) ?_; clear r5; intro wn r5 ze zg; have zf := B.size; replace zg := Nat.le_of_eq zg.symm; replace B := qN.below B ze (by omega) B.size; replace o7 := o7.chg ze (by omega); replace o8 := o8.chg ze (by omega); replace r2 := r2.of_eq (ze.block _ r2.lt (by omega)); replace r4 := r4.of_eq (ze.block _ r4.lt (by omega)); replace r7 := r7.of_eq (ze.block _ r7.lt (by omega)); replace r8 := r8.of_eq (ze.block _ r8.lt (by omega)); refine hK _ _ ?_; simp only [zn]; clear hK K; refine wpAny_ready (rs := [4]) (by kernel_rfl) (by simp) ?_; refine AllReady.cons rfl (fun K hK => qY rfl ?_) ?_
       ·simp only [zN]
        refine wj (_) (by rfl) ?_; refine hK _ _ ?_; simp only [zn]; clear hK K; refine wpAny_done (by kernel_rfl) ?_ _; go_wp2_with fail
        go_meet; exact ⟨rfl, B, o7, o8, r4, r5⟩
       exact AllReady.nil
      exact AllReady.nil
     exact AllReady.nil
    refine AllReady.cons rfl (fun K hK => qY rfl ?_) ?_
    ·simp only [zN]
     refine qO (t := 30) _ _ _ _ rfl rfl rfl r4 (by kernel_rfl) rfl (by simp [qw, Value.oneCell']) ?_; clear r4; intro wn r4 ze zg; have zf := B.size; replace zg := Nat.le_of_eq zg.symm; replace B := qN.below B ze (by omega) B.size; replace o7 := o7.chg ze (by omega); replace o8 := o8.chg ze (by omega); replace r2 := r2.of_eq (ze.block _ r2.lt (by omega)); replace r5 := r5.of_eq (ze.block _ r5.lt (by omega)); replace r7 := r7.of_eq (ze.block _ r7.lt (by omega)); replace r8 := r8.of_eq (ze.block _ r8.lt (by omega)); refine hK _ _ ?_; simp only [zn]; clear hK K; refine wpAny_ready (rs := [1]) (by kernel_rfl) (by simp) ?_; refine AllReady.cons rfl (fun K hK => qY rfl ?_) ?_
     ·simp only [zN]
      refine jW (t := 30) _ _ rfl rfl r8 Tryz.isAgg30 (by kernel_rfl) ?_; refine hK _ _ ?_; simp only [zn]; clear hK K; refine wpAny_ready (rs := [3]) (by kernel_rfl) (by simp) ?_; refine AllReady.cons rfl (fun K hK => qY rfl ?_) ?_
      ·simp only [zN]
       refine qO (t := 30) _ _ _ _ rfl rfl rfl r5 (by kernel_rfl) rfl (by simp [qw, Value.oneCell']) ?_; clear r5; intro wn r5 ze zg; have zf := B.size; replace zg := Nat.le_of_eq zg.symm; replace B := qN.below B ze (by omega) B.size; replace o7 := o7.chg ze (by omega); replace o8 := o8.chg ze (by omega); replace r2 := r2.of_eq (ze.block _ r2.lt (by omega)); replace r4 := r4.of_eq (ze.block _ r4.lt (by omega)); replace r7 := r7.of_eq (ze.block _ r7.lt (by omega)); replace r8 := r8.of_eq (ze.block _ r8.lt (by omega)); refine hK _ _ ?_; simp only [zn]; clear hK K; refine wpAny_ready (rs := [4]) (by kernel_rfl) (by simp) ?_; refine AllReady.cons rfl (fun K hK => qY rfl ?_) ?_
       ·simp only [zN]
        refine wj (_) (by rfl) ?_; refine hK _ _ ?_; simp only [zn]; clear hK K; refine wpAny_done (by kernel_rfl) ?_ _; go_wp2_with fail
        go_meet; exact ⟨rfl, B, o7, o8, r4, r5⟩
       exact AllReady.nil
      exact AllReady.nil
     exact AllReady.nil
    exact AllReady.nil
   refine AllReady.cons rfl (fun K hK => qY rfl ?_) ?_
   ·simp only [zN]
    refine jW (t := 30) _ _ rfl rfl r8 Tryz.isAgg30 (by kernel_rfl) ?_; refine hK _ _ ?_; simp only [zn]; clear hK K; refine wpAny_ready (rs := [0]) (by kernel_rfl) (by simp) ?_; refine AllReady.cons rfl (fun K hK => qY rfl ?_) ?_
    ·simp only [zN]
     refine jW (t := 30) _ _ rfl rfl r7 Tryz.isAgg30 (by kernel_rfl) ?_; refine hK _ _ ?_; simp only [zn]; clear hK K; refine wpAny_ready (rs := [2]) (by kernel_rfl) (by simp) ?_; refine AllReady.cons rfl (fun K hK => qY rfl ?_) ?_
     ·simp only [zN]
      refine qO (t := 30) _ _ _ _ rfl rfl rfl r4 (by kernel_rfl) rfl (by simp [qw, Value.oneCell']) ?_; clear r4; intro wn r4 ze zg; have zf := B.size; replace zg := Nat.le_of_eq zg.symm; replace B := qN.below B ze (by omega) B.size; replace o7 := o7.chg ze (by omega); replace o8 := o8.chg ze (by omega); replace r2 := r2.of_eq (ze.block _ r2.lt (by omega)); replace r5 := r5.of_eq (ze.block _ r5.lt (by omega)); replace r7 := r7.of_eq (ze.block _ r7.lt (by omega)); replace r8 := r8.of_eq (ze.block _ r8.lt (by omega)); refine hK _ _ ?_; simp only [zn]; clear hK K; refine wpAny_ready (rs := [3]) (by kernel_rfl) (by simp) ?_; refine AllReady.cons rfl (fun K hK => qY rfl ?_) ?_
      ·simp only [zN]
       refine qO (t := 30) _ _ _ _ rfl rfl rfl r5 (by kernel_rfl) rfl (by simp [qw, Value.oneCell']) ?_; clear r5; intro wn r5 ze zg; have zf := B.size; replace zg := Nat.le_of_eq zg.symm; replace B := qN.below B ze (by omega) B.size; replace o7 := o7.chg ze (by omega); replace o8 := o8.chg ze (by omega); replace r2 := r2.of_eq (ze.block _ r2.lt (by omega)); replace r4 := r4.of_eq (ze.block _ r4.lt (by omega)); replace r7 := r7.of_eq (ze.block _ r7.lt (by omega)); replace r8 := r8.of_eq (ze.block _ r8.lt (by omega)); refine hK _ _ ?_; simp only [zn]; clear hK K; refine wpAny_ready (rs := [4]) (by kernel_rfl) (by simp) ?_; refine AllReady.cons rfl (fun K hK => qY rfl ?_) ?_
       ·simp only [zN]
        refine wj (_) (by rfl) ?_; refine hK _ _ ?_; simp only [zn]; clear hK K; refine wpAny_done (by kernel_rfl) ?_ _; go_wp2_with fail
        go_meet; exact ⟨rfl, B, o7, o8, r4, r5⟩
       exact AllReady.nil
      exact AllReady.nil
     exact AllReady.nil
    exact AllReady.nil
   exact AllReady.nil
  case rest =>
  clear B o7 o8 r4 r5; obtain ⟨rfl, B, o7, o8, r4, r5⟩ := hcut; first | (refine bodyPost_ret (zO (t := 30) (u := 30) rfl _ _ b_r4 b_r5 rfl rfl _ rfl r4 r5 Tryz.isAgg30 (by kernel_rfl) Tryz.isAgg30 (by kernel_rfl)) rfl ?_) | (go_step; refine bodyPost_ret (zO (t := 30) (u := 30) rfl _ _ b_r4 b_r5 rfl rfl _ rfl r4 r5 Tryz.isAgg30 (by kernel_rfl) Tryz.isAgg30 (by kernel_rfl)) rfl ?_) | (go_step; go_step; refine bodyPost_ret (zO (t := 30) (u := 30) rfl _ _ b_r4 b_r5 rfl rfl _ rfl r4 r5 Tryz.isAgg30 (by kernel_rfl) Tryz.isAgg30 (by kernel_rfl)) rfl ?_) | (go_step; go_step; go_step; refine bodyPost_ret (zO (t := 30) (u := 30) rfl _ _ b_r4 b_r5 rfl rfl _ rfl r4 r5 Tryz.isAgg30 (by kernel_rfl) Tryz.isAgg30 (by kernel_rfl)) rfl ?_) | (go_step; go_step; go_step; go_step; refine bodyPost_ret (zO (t := 30) (u := 30) rfl _ _ b_r4 b_r5 rfl rfl _ rfl r4 r5 Tryz.isAgg30 (by kernel_rfl) Tryz.isAgg30 (by kernel_rfl)) rfl ?_) | (go_step; go_step; go_step; go_step; go_step; refine bodyPost_ret (zO (t := 30) (u := 30) rfl _ _ b_r4 b_r5 rfl rfl _ rfl r4 r5 Tryz.isAgg30 (by kernel_rfl) Tryz.isAgg30 (by kernel_rfl)) rfl ?_)
  have e4 : qw (.slice a4 PA.length c4) s = qw (.slice a4 PA.length c4) (u7 s k) := rfl; have e5 : qw (.slice a5 PB.length c5) ⟨s.pts, s.rad, s.spa, s.col, s.era, ph⟩ = qw (.slice a5 PB.length c5) (uh s k) := by rw [← HPV.out]; rfl
  rw [e4, e5]; exact ⟨_, _, rfl, by show zW qD _ _ (s.pts.take (k + 1)) _; rw [HPA.out]; exact o7.mono (by have := HB0.out; omega), by show zW qD _ _ (s.pts.drop k) _; rw [HPB.out]; exact o8.mono (by have := HB0.out; omega), B⟩
end Go.Proofs.YtepelndbbhdofaaGreatDoor
/- Contract of Read of package stroke. -/
namespace Go.Proofs.YtepelndbbhdofaaGreatDoor
open Go.RowKit Sha Pl
set_option linter.unusedVariables false
set_option linter.unusedSimpArgs false
set_option maxRecDepth 20000
/-! ### The states of the reader -/
def KA (l : List UInt8) (st : Nat × Bool) : Sp × (Nat × Bool) := (⟨(beN (kh l st 3).1 : Int) - 1048576, (beN (kh l (kh l st 3).2 3).1 : Int) - 1048576, (beN (kh l (kh l (kh l st 3).2 3).2 1).1 : Int)⟩, (kh l (kh l (kh l st 3).2 3).2 1).2)
def Qq (l : List UInt8) : Nat → List Sp × (Nat × Bool)
 | 0 => ([], (kh l (0, false) 1).2)
 | k + 1 => ((Qq l k).1 ++ [(KA l (Qq l k).2).1], (KA l (Qq l k).2).2)
theorem VN (l : List UInt8) : ∀ k, (Qq l k).1.length = k
 | 0 => rfl
 | k + 1 => by
  show ((Qq l k).1 ++ [_]).length = _
  rw [List.length_append, VN l k]
  rfl
theorem zeE {l : List UInt8} {st : Nat × Bool} (h : (KA l st).2.2 = false) : st.2 = false ∧ (KA l st).2.1 = st.1 + 7 ∧ st.1 + 7 ≤ l.length := by
 obtain ⟨a1, a2, a3⟩ := kT (l := l) (m := 1) h
 obtain ⟨b1, b2, b3⟩ := kT a1
 obtain ⟨c1, c2, c3⟩ := kT b1
 refine ⟨c1, ?_, ?_⟩
 ·show (kh l (kh l (kh l st 3).2 3).2 1).2.1 = _
  rw [a2, b2, c2]
 ·rw [b2, c2] at a3
  omega
theorem zbX (l : List UInt8) : ∀ k, (Qq l k).2.2 = false → (Qq l k).2.1 = 1 + 7 * k ∧ 1 + 7 * k ≤ l.length
 | 0, h => by
  obtain ⟨_, a2, a3⟩ := kT (l := l) (st := (0, false)) (m := 1) h; exact ⟨by show (kh l (0, false) 1).2.1 = _; rw [a2], by simpa using a3⟩
 | k + 1, h => by
  obtain ⟨a1, a2, a3⟩ := zeE (l := l) h; obtain ⟨b1, b2⟩ := zbX l k a1; refine ⟨?_, ?_⟩
  ·show (KA l (Qq l k).2).2.1 = _
   rw [a2, b1]; omega
  ·rw [b1] at a3
   omega
theorem zeF {l : List UInt8} {st : Nat × Bool} (h : st.1 ≤ l.length) : (KA l st).2.1 ≤ l.length := kl (kl (kl h))
theorem zbY (l : List UInt8) : ∀ k, (Qq l k).2.1 ≤ l.length
 | 0 => kl (Nat.zero_le _)
 | k + 1 => zeF (zbY l k)
theorem zeG {l : List UInt8} {k : Nat} (h : 8 + 7 * k ≤ l.length) : KA l (1 + 7 * k, false) = (Kt l k, (1 + 7 * (k + 1), false)) := by
 unfold KA
 rw [yY (by omega)]
 simp only
 rw [yY (by omega)]
 simp only
 rw [yY (by omega)]
 simp only
 unfold Kt
 rw [show 1 + 7 * k + 3 = 4 + 7 * k by omega, show 4 + 7 * k + 3 = 7 + 7 * k by omega, show 7 + 7 * k + 1 = 1 + 7 * (k + 1) by omega]
theorem Kz (l : List UInt8) : ∀ k, 1 + 7 * k ≤ l.length → Qq l k = ((List.range k).map (Kt l), (1 + 7 * k, false))
 | 0, h => by
  show ([], (kh l (0, false) 1).2) = _
  rw [yY (by omega)]
  rfl
 | k + 1, h => by
  show ((Qq l k).1 ++ [(KA l (Qq l k).2).1], (KA l (Qq l k).2).2) = _
  rw [Kz l k (by omega)]; simp only; rw [zeG (by omega), List.range_succ, List.map_append]
  rfl
theorem zbZ (l : List UInt8) : beN (kh l (0, false) 1).1 = wA l := by
 unfold wA
 by_cases h : 0 + 1 ≤ l.length
 ·rw [yY h]
 ·have : l = [] := List.length_eq_zero_iff.1 (by omega)
  subst this
  rfl
/-- What the reader takes behind the points. -/
structure Tl (l : List UInt8) (st : Nat × Bool) (a b c d e : List UInt8) (s1 s2 s3 s4 s5 : Nat × Bool) : Prop where
 h1 : kh l st 2 = (a, s1)
 h2 : kh l s1 2 = (b, s2)
 h3 : kh l s2 4 = (c, s3)
 h4 : kh l s3 1 = (d, s4)
 h5 : kh l s4 3 = (e, s5)
theorem zdM (l : List UInt8) (st : Nat × Bool) : ∃ a b c d e s1 s2 s3 s4 s5, Tl l st a b c d e s1 s2 s3 s4 s5 := ⟨_, _, _, _, _, _, _, _, _, _, ⟨rfl, rfl, rfl, rfl, rfl⟩⟩
theorem Tl.bad {l : List UInt8} {k : Nat} {a b c d e : List UInt8} {s1 s2 s3 s4 s5 : Nat × Bool} (h : Tl l (Qq l k).2 a b c d e s1 s2 s3 s4 s5) (hl : l.length < 13 + 7 * k) : s5.2 = true := by
 cases hs : s5.2 with
 | true => rfl
 | false =>
  obtain ⟨a1, a2, a3⟩ := kT (l := l) (st := s4) (m := 3) (by rw [h.h5]; exact hs)
  obtain ⟨b1, b2, b3⟩ := kT (l := l) (st := s3) (m := 1) (by rw [h.h4]; exact a1)
  obtain ⟨c1, c2, c3⟩ := kT (l := l) (st := s2) (m := 4) (by rw [h.h3]; exact b1)
  obtain ⟨d1, d2, d3⟩ := kT (l := l) (st := s1) (m := 2) (by rw [h.h2]; exact c1)
  obtain ⟨e1, e2, e3⟩ := kT (l := l) (st := (Qq l k).2) (m := 2) (by rw [h.h1]; exact d1)
  rw [h.h4] at b2; rw [h.h3] at c2; rw [h.h2] at d2; rw [h.h1] at e2; have f := (zbX l k e1).1; simp only at b2 c2 d2 e2; omega
theorem Tl.good {l : List UInt8} {k : Nat} {a b c d e : List UInt8} {s1 s2 s3 s4 s5 : Nat × Bool} (h : Tl l (Qq l k).2 a b c d e s1 s2 s3 s4 s5) (hl : 13 + 7 * k ≤ l.length) : s5.2 = false ∧ a = j9 l (1 + 7 * k) 2 ∧ b = j9 l (3 + 7 * k) 2 ∧ c = j9 l (5 + 7 * k) 4 ∧ d = j9 l (9 + 7 * k) 1 ∧ e = j9 l (10 + 7 * k) 3 := by
 have h1 := h.h1
 rw [Kz l k (by omega)] at h1
 simp only at h1
 rw [yY (by omega)] at h1
 injection h1 with e1 e2
 have h2 := h.h2
 rw [← e2, yY (by omega)] at h2
 injection h2 with e3 e4
 have h3 := h.h3
 rw [← e4, yY (by omega)] at h3
 injection h3 with e5 e6
 have h4 := h.h4
 rw [← e6, yY (by omega)] at h4
 injection h4 with e7 e8
 have h5 := h.h5
 rw [← e8, yY (by omega)] at h5
 injection h5 with e9 e10
 rw [← e1, ← e3, ← e5, ← e7, ← e9, ← e10]
 refine ⟨rfl, rfl, ?_, ?_, ?_, ?_⟩ <;> (congr 1; omega)
theorem Tl.le {l : List UInt8} {st : Nat × Bool} {a b c d e : List UInt8} {s1 s2 s3 s4 s5 : Nat × Bool} (h : Tl l st a b c d e s1 s2 s3 s4 s5) (h0 : st.1 ≤ l.length) : s1.1 ≤ l.length ∧ s2.1 ≤ l.length ∧ s3.1 ≤ l.length ∧ s4.1 ≤ l.length := by
 have a1 := kl (m := 2) h0
 rw [h.h1] at a1
 have a2 := kl (m := 2) a1
 rw [h.h2] at a2
 have a3 := kl (m := 4) a2
 rw [h.h3] at a3
 have a4 := kl (m := 1) a3
 rw [h.h4] at a4
 exact ⟨a1, a2, a3, a4⟩
theorem JA {l : List UInt8} {st : Nat × Bool} {m : Nat} (hm : m ≤ 3) : beN (kh l st m).1 < 16777216 :=
 Nat.lt_of_lt_of_le (Z1 _) (by rw [show (16777216 : Nat) = 256 ^ 3 from rfl]; exact Nat.pow_le_pow_right (by omega) (Nat.le_trans ZM hm))
/-- A colour stored into a stroke. -/
theorem Xi {ops : Array Oper} {rest : List Oper} {o : Oper} {a : Act} {w : World} {Q : Exit → Act → World → Prop} (hg : o.guard = none) (x y : Operand) (ho : o.op = .store 28 x y) (b : Nat) (hx : a.eval x = .pointer (some ⟨b, 3, none⟩)) (q : Px) (hy : a.eval y = .agg #[.int .u8 q.r, .int .u8 q.g, .int .u8 q.b, .int .u8 q.a]) {v : Value} {s : qv} (ht : zF 30 w b (qw v s))
  (h : ∀ w', zF 30 w' b (qw v { s with col := q }) → qN b w w' → w'.heap.size = w.heap.size → wpList Tryz.prog ops Q rest (a.put o.dst undef) w') : wpList Tryz.prog ops Q (o :: rest) a w := by
 have c3 : w.cell? ⟨b, 3, none⟩ = some (.int .u8 s.col.r) := ht.cell 3 rfl
 have c4 : w.cell? ⟨b, 4, none⟩ = some (.int .u8 s.col.g) := ht.cell 4 rfl
 have c5 : w.cell? ⟨b, 5, none⟩ = some (.int .u8 s.col.b) := ht.cell 5 rfl
 have c6 : w.cell? ⟨b, 6, none⟩ = some (.int .u8 s.col.a) := ht.cell 6 rfl
 have hf := fun j => zF.frozen ht j
 refine qe hg x y ho ((((w.setCell ⟨b, 3, none⟩ (.int .u8 q.r)).setCell ⟨b, 4, none⟩ (.int .u8 q.g)).setCell ⟨b, 5, none⟩ (.int .u8 q.b)).setCell ⟨b, 6, none⟩ (.int .u8 q.a)) ?_ (h _ ?_ (((((qN.refl b w).setCell _).setCell _).setCell _).setCell _) (by simp only [World.size_setCell]))
 ·rw [hx, hy]
  simp [go_sem, c3, c4, c5, c6, hf]
 ·exact heap_setCell_same _ b 6 _ _ (.int .u8 q.a) (heap_setCell_same _ b 5 _ _ (.int .u8 q.b) (heap_setCell_same _ b 4 _ _ (.int .u8 q.g) (heap_setCell_same _ b 3 _ _ (.int .u8 q.r) ht)))
/- Contract of Read of package stroke. -/
theorem zck (s t : ByteArray) : (s.toList == t.toList) = decide (s = t) := by
 rw [ByteArray.toList_eq, ByteArray.toList_eq]
 by_cases h : s = t
 ·rw [decide_eq_true h, h]; simp
 ·rw [decide_eq_false h, beq_eq_false_iff_ne]
  exact fun e => h (by rw [← Q8 s, ← Q8 t]; exact congrArg xT e)
theorem VD {a b : List UInt8} : xT a = xT b ↔ a = b := ⟨fun e => congrArg bytes e, fun e => by rw [e]⟩
theorem zb6 (A B : List UInt8) (w : World) : (binOp .neq 9 (.string (xT A)) (.string (xT B))).run Tryz.prog w = .ok (.bool (!decide (A = B))) w := by
 have h : decide (xT A = xT B) = decide (A = B) := by
  by_cases e : A = B
  ·rw [decide_eq_true e, decide_eq_true (VD.2 e)]
  ·rw [decide_eq_false e, decide_eq_false (fun k => e (VD.1 k))]
 simp [go_sem, zck, h]
theorem zb5 (t : TypeId) (x y : Operand) (A B : List UInt8) (w : World) : (eqGuard BinOp.neq t x y (.string (xT A)) (.string (xT B))).run Tryz.prog w = .ok () w := by first | rfl | simp [go_sem, eqGuard]
theorem kS {o : Oper} {a : Act} {C : World → Prop} {K : Act → Prop} {x y : Operand} (h : o.op = .binOp .neq 9 x y 9) (A B : List UInt8) (hx : a.eval x = .string (xT A)) (hy : a.eval y = .string (xT B)) (z : Bool) (hz : (!decide (A = B)) = z) (hk : K (a.put o.dst (.bool z))) : o.quiet Tryz.prog a C K := by
 subst hz
 exact ⟨_, fun w hw => by unfold Oper.quietAt execOp; simp only [h, hx, hy, zb5, zb6 A B w, Sem.run_bind, Sem.run_pure, Result.andThen_ok]; exact ⟨rfl, rfl⟩, hk⟩
set_option maxHeartbeats 8000000 in
theorem K0 (l : List UInt8) (S : qv) (E : Int) (w : World) (hl : l.length ≤ 100000000) (e : wI l = (S, E)) : Calls Tryz.prog 34 #[.string (xT l)] w fun e w' => ∃ v, e = .returned (.tuple #[.agg (qw v S), .int .i64 E]) ∧ jF qD v S.pts w' ∧ Below w.heap.size w w' := by
 have B := Below.refl w.heap.size w
 have HE := Lib.hid e
 clear e
 obtain ⟨⟨x0, i0, f0⟩, hx0⟩ : ∃ t, kh l (0, false) 1 = t := ⟨_, rfl⟩
 have hn0 : beN x0 = wA l := by rw [← zbZ, hx0]
 have h00 : Qq l 0 = ([], (i0, f0)) := by show ([], (kh l (0, false) 1).2) = _; rw [hx0]
 have HX0 := Lib.hid hx0
 have H00 := Lib.hid h00
 clear hx0 h00
 have hpn : wA l < 256 := by have := Z1 (j9 l 0 1); unfold wA; exact Nat.lt_of_lt_of_le this (by rw [show (256 : Nat) = 256 ^ 1 from rfl]; exact Nat.pow_le_pow_right (by omega) (by unfold j9; rw [List.length_take]; omega))
 obtain ⟨n, hn⟩ : ∃ n, wA l = n := ⟨_, rfl⟩
 rw [hn] at hn0 hpn
 have HN := Lib.hid hn
 clear hn
 go_enter Tryz.func34, Tryz.ntmps34
 go_upto_region 0 with fail
 refine wp_region_lit ?_
 (refine zr (t := 30) rfl _ (zG _ _ rfl) (zV B ?_); clear B; intro b_r2 wn zb zd r2 za zf zk B; simp only [zn])
 refine zx 1 ?_
 refine wpList_nil ?_
 have k1 : w.heap.size ≤ b_r2 := by omega
 have hr2 := r2.lt
 go_upto_region 1 with fail
 refine wp_region_lit ?_
 refine zx 1 ?_
 refine qE (enters_of Tryz.func86 (by kernel_rfl) rfl) (c := zcB l _) (h := ?_)
 rintro e wn ⟨b_rd, hb_rd, rfl, rd, za⟩
 have zf := B.size
 have zg := za.size
 replace B := B.trans (za.mono B.size)
 (try replace r2 := r2.below za)
 refine ⟨_, rfl, ?_⟩
 simp only [zn]
 refine zx 1 ?_
 refine wpList_nil ?_
 have k2 : b_r2 < b_rd := by omega
 have hrd := rd.lt
 go_upto_region 2 with fail
 refine wp_region_lit ?_
 (refine zr (t := 30) rfl _ (zG _ _ rfl) (zV B ?_); clear B; intro b_t5 wn zb zd t5 za zf zk B; (try have zh := r2.lt); (try replace r2 := r2.below (za.mono zb)); (try have zh := rd.lt); (try replace rd := rd.below (za.mono zb)); simp only [zn])
 refine wpList_nil ?_
 have k3 : b_rd < b_t5 := by omega
 have ht5 := t5.lt
 obtain ⟨b1, hb1⟩ : ∃ n, n = wn.heap.size := ⟨_, rfl⟩
 have k4 : b_t5 < b1 := by omega
 have k5 : b1 ≤ wn.heap.size := by omega
 clear hb1 hr2 hrd ht5
 have od : zW qD b1 (.slice none 0 0) [] wn := zW.nil b1 wn
 replace t5 : zF 30 _ b_t5 (qw (.slice none 0 0) zSt) := t5
 go_upto_region 3 with fail
 refine wp_region_lit ?_
 refine zx 1 ?_
 refine qE (enters_of Tryz.func87 (by kernel_rfl) rfl) (c := Jr l 0 false b_rd x0 i0 f0 _ rd hl (Nat.zero_le _) HX0.out) (h := ?_)
 rintro e wn ⟨rfl, rd2, ze⟩
 have zf := B.size
 have zg := ze.size
 replace B := qN.below B ze (by omega) B.size
 replace r2 := r2.of_eq (ze.block _ r2.lt (by omega))
 replace t5 := t5.of_eq (ze.block _ t5.lt (by omega))
 replace od := od.chg ze (by omega)
 clear rd
 have rd := rd2
 clear rd2
 refine ⟨_, rfl, ?_⟩
 simp only [zn]
 refine zx 1 ?_
 refine wpList_nil ?_
 rw [hn0]
 have k6 : b1 ≤ wn.heap.size := by omega
 clear k5
 go_wp2
 go_loopw [6, 7, 13] (fun _ _ iv wr => ∃ (k i : Nat) (fl : Bool) (P : List Sp) (ap : Option Addr) (cp : Nat), k ≤ n ∧ iv = .int .i64 (k : Int) ∧ Hid (Qq l k = (P, (i, fl))) ∧ Below w.heap.size w wr ∧ b1 ≤ wr.heap.size ∧ zF 180 wr b_rd (QW l i fl) ∧ zF 30 wr b_r2 #[.slice none 0 0, .int .i64 0, .int .i64 0, .int .u8 0, .int .u8 0, .int .u8 0, .int .u8 0, .bool false, .int .i64 0] ∧ zF 30 wr b_t5 (qw (.slice ap P.length cp) zSt) ∧ zW qD b1 (.slice ap P.length cp) P wr) (fun _ _ iv _ => (n - intOf iv).toNat)
 case atStart => exact ⟨0, i0, f0, [], none, 0, by omega, rfl, H00, B, k6, rd, r2, t5, od⟩
 case round =>
  clear B k6 rd r2 t5 od HX0 H00; obtain ⟨k, i, fl, P, ap, cp, hk, rfl, HK, B, k6, rd, r2, t5, od⟩ := hrel; have hPn : P.length = k := by have := VN l k; rw [HK.out] at this; exact this
  have hi := zbY l k; rw [HK.out] at hi; simp only at hi; by_cases hkn : k < n
  ·have q1 : decide ((k : Int) < (n : Int)) = true := decide_eq_true (by omega)
   have q2 : decide (k < n) = true := decide_eq_true hkn; have hst : Qq l (k + 1) = (P ++ [(KA l (i, fl)).1], (KA l (i, fl)).2) := by
    show ((Qq l k).1 ++ [(KA l (Qq l k).2).1], (KA l (Qq l k).2).2) = _
    rw [HK.out]
   unfold KA at hst; obtain ⟨⟨xa, ia, fa⟩, hxa⟩ : ∃ t, kh l (i, fl) 3 = t := ⟨_, rfl⟩; have la := kl (m := 3) (st := (i, fl)) hi; have na := JA (l := l) (st := (i, fl)) (m := 3) (by omega); rw [hxa] at hst la na; simp only at hst la na; obtain ⟨⟨xb, ib, fb⟩, hxb⟩ : ∃ t, kh l (ia, fa) 3 = t := ⟨_, rfl⟩; have lb := kl (m := 3) (st := (ia, fa)) la; have nb := JA (l := l) (st := (ia, fa)) (m := 3) (by omega); rw [hxb] at hst lb nb; simp only at hst lb nb; obtain ⟨⟨xc, ic, fc⟩, hxc⟩ : ∃ t, kh l (ib, fb) 1 = t := ⟨_, rfl⟩; have nc := JA (l := l) (st := (ib, fb)) (m := 1) (by omega); rw [hxc] at hst nc; simp only at hst nc; have HA := Lib.hid hxa; have HB := Lib.hid hxb; have HC := Lib.hid hxc; have HST := Lib.hid hst; clear hxa hxb hxc hst HK; obtain ⟨na_, hna⟩ : ∃ n, beN xa = n := ⟨_, rfl⟩; obtain ⟨nb_, hnb⟩ : ∃ n, beN xb = n := ⟨_, rfl⟩; obtain ⟨nc_, hnc⟩ : ∃ n, beN xc = n := ⟨_, rfl⟩
   rw [hna] at na; rw [hnb] at nb; rw [hnc] at nc; rw [hna, hnb, hnc] at HST; go_upto_region 4 with fail
   refine wp_region_lit ?_; refine zx 1 ?_; refine wpList_nil ?_; go_upto_region 5 with fail
   refine wp_region_lit ?_; refine zx 1 ?_; refine qE (enters_of Tryz.func87 (by kernel_rfl) rfl) (c := Js l i fl b_rd xa ia fa _ rd hl hi HA.out) (h := ?_); rintro e wn ⟨rfl, rd2, ze⟩; have zf := B.size; have zg := ze.size; replace B := qN.below B ze (by omega) B.size; replace r2 := r2.of_eq (ze.block _ r2.lt (by omega)); replace t5 := t5.of_eq (ze.block _ t5.lt (by omega)); replace od := od.chg ze (by omega); clear rd; have rd := rd2; clear rd2; rw [hna]; refine ⟨_, rfl, ?_⟩; simp only [zn]; refine zx 2 ?_; refine qE (enters_of Tryz.func87 (by kernel_rfl) rfl) (c := Js l ia fa b_rd xb ib fb _ rd hl la HB.out) (h := ?_); rintro e wn ⟨rfl, rd2, ze⟩; have zf := B.size; have zg := ze.size; replace B := qN.below B ze (by omega) B.size; replace r2 := r2.of_eq (ze.block _ r2.lt (by omega)); replace t5 := t5.of_eq (ze.block _ t5.lt (by omega))
   replace od := od.chg ze (by omega); clear rd; have rd := rd2; clear rd2; rw [hnb]; refine ⟨_, rfl, ?_⟩; simp only [zn]; refine zx 2 ?_; refine qE (enters_of Tryz.func87 (by kernel_rfl) rfl) (c := Jr l ib fb b_rd xc ic fc _ rd hl lb HC.out) (h := ?_); rintro e wn ⟨rfl, rd2, ze⟩; have zf := B.size; have zg := ze.size; replace B := qN.below B ze (by omega) B.size; replace r2 := r2.of_eq (ze.block _ r2.lt (by omega)); replace t5 := t5.of_eq (ze.block _ t5.lt (by omega)); replace od := od.chg ze (by omega); clear rd; have rd := rd2; clear rd2; rw [hnc]; refine ⟨_, rfl, ?_⟩; simp only [zn]; refine zx 1 ?_; obtain ⟨wM, hwM⟩ : ∃ z, z = wn := ⟨_, rfl⟩; subst hwM; have HOD := Lib.hid od; have BM := B; have hws := BM.size; have kM : b1 ≤ wM.heap.size := by omega
   have B := Below.refl wM.heap.size wM; have hlr2 := r2.lt; have hlt5 := t5.lt; have hlrd := rd.lt; clear od
   (refine zr (t := 43) rfl _ (xr _ _ rfl) (zV B ?_); clear B; intro b_t6 wn zb zd t6 za zf zk B; (try have zh := r2.lt); (try replace r2 := r2.below (za.mono zb)); (try have zh := t5.lt); (try replace t5 := t5.below (za.mono zb)); (try have zh := rd.lt); (try replace rd := rd.below (za.mono zb)); simp only [zn])
   (refine zp (t := 43) rfl _ _ rfl _ rfl _ rfl t6 (by kernel_rfl) rfl (by simp [qD, Value.oneCell']) (qt B (by omega) ?_); clear t6 B; intro wn t6 ze zf zg B; (try replace r2 := r2.of_eq (ze.block _ r2.lt (by omega))); (try replace t5 := t5.of_eq (ze.block _ t5.lt (by omega))); (try replace rd := rd.of_eq (ze.block _ rd.lt (by omega))); simp only [zn])
   refine wpList_nil ?_; have od := HOD.out.below B; have B0 := BM.trans (B.mono hws); have k7 : b1 ≤ wn.heap.size := Nat.le_trans kM B.size; clear B; have B := B0; clear B0 BM; obtain ⟨p, hp⟩ : ∃ p : Sp, p = ⟨(na_ : Int) - 1048576, (nb_ : Int) - 1048576, (nc_ : Int)⟩ := ⟨_, rfl⟩; have t6p : zF 43 wn b_t6 (qD.enc p) := by rw [hp]; exact t6
   rw [← hp] at HST; clear t6 hp; have t6 := t6p; clear t6p; go_upto_region 6 with fail
   refine wp_region_lit ?_; refine zx 3 ?_
   (refine vS (E := qD) rfl _ rfl (p) rfl (by omega) (zV B ?_); clear B; intro b_s1 wn zb zd s1 za zf zk B; replace od := od.below (za.mono zb); (try have zh := r2.lt); (try replace r2 := r2.below (za.mono zb)); (try have zh := t5.lt); (try replace t5 := t5.below (za.mono zb)); (try have zh := rd.lt); (try replace rd := rd.below (za.mono zb)); simp only [zn])
   (at_builtin; refine xm rfl _ _ rfl _ _ rfl rfl od ((jF.one s1)) (by simp only [List.length_append, List.length_cons, List.length_nil]; omega) (by omega) ?_; intro v_od wn ht za; have zf := B.size; have hbz := za.size; replace B := B.trans (za.mono (by omega)); clear od; (try replace r2 := r2.of_eq (za.block _ (by omega))); (try replace t5 := t5.of_eq (za.block _ (by omega))); (try replace rd := rd.of_eq (za.block _ (by omega))); have od := ht; clear ht; obtain ⟨a_od, c_od, hv, hco⟩ := od.len; (try simp only [List.length_append, List.length_cons, List.length_nil, Nat.zero_add] at hv hco); subst hv; simp only [zn])
   refine zx 1 ?_; refine wpList_nil ?_; go_upto_region 7 with fail
   refine wp_region_lit ?_; refine zx 2 ?_
   (refine jQ (t := 30) rfl _ _ rfl _ 0 rfl _ _ _ rfl t5 rfl (qt B (by omega) ?_); clear t5 B; intro wn t5 ze zf zg B; (try replace r2 := r2.of_eq (ze.block _ r2.lt (by omega))); (try replace rd := rd.of_eq (ze.block _ rd.lt (by omega))); replace od := od.chg ze (by omega); simp only [zn])
   refine wpList_nil ?_; go_upto_region 8 with fail
   refine wp_region_lit ?_; refine zx 2 ?_; refine wpList_nil ?_; go_wp2; go_roundw
   case rel => exact ⟨k + 1, ic, fc, P ++ [p], _, _, by omega, by go_num, HST, B, by omega, rd, r2, by rw [List.length_append]; exact t5, by rw [List.length_append]; exact od⟩
   case measure => simp [intOf]; omega
  ·have q1 : decide ((k : Int) < (n : Int)) = false := decide_eq_false (by omega)
   have q2 : decide (k < n) = false := decide_eq_false hkn; have hke : k = n := by omega
   subst hke; obtain ⟨a, b, c, d, e, ⟨i1, f1⟩, ⟨i2, f2⟩, ⟨i3, f3⟩, ⟨i4, f4⟩, ⟨i5, f5⟩, TL⟩ := zdM l (i, fl); obtain ⟨m1, m2, m3, m4⟩ := TL.le hi; simp only at m1 m2 m3 m4; have HT1 := Lib.hid TL.h1; have HT2 := Lib.hid TL.h2; have HT3 := Lib.hid TL.h3; have HT4 := Lib.hid TL.h4; have HT5 := Lib.hid TL.h5; have HTL := Lib.hid (show Tl l (Qq l k).2 a b c d e (i1, f1) (i2, f2) (i3, f3) (i4, f4) (i5, f5) from by rw [HK.out]; exact TL)
   clear TL; obtain ⟨na_, hna⟩ : ∃ n, beN a = n := ⟨_, rfl⟩; obtain ⟨nb_, hnb⟩ : ∃ n, beN b = n := ⟨_, rfl⟩; obtain ⟨nd_, hnd⟩ : ∃ n, beN d = n := ⟨_, rfl⟩; obtain ⟨ne_, hne⟩ : ∃ n, beN e = n := ⟨_, rfl⟩; have qd : ((nd_ : Int) == 1) = decide (nd_ = 1) := by
    by_cases h : nd_ = 1
    ·subst h; rfl
    ·rw [decide_eq_false h, beq_eq_false_iff_ne]; omega
   go_upto_region 4 with fail
   refine wp_region_lit ?_; refine zx 1 ?_; refine wpList_nil ?_; go_upto_region 9 with fail
   refine wp_region_lit ?_; refine zx 1 ?_; refine qE (enters_of Tryz.func87 (by kernel_rfl) rfl) (c := KZ l i fl b_rd a i1 f1 _ rd hl hi HT1.out) (h := ?_); rintro e wn ⟨rfl, rd2, ze⟩; have zf := B.size; have zg := ze.size; replace B := qN.below B ze (by omega) B.size; replace r2 := r2.of_eq (ze.block _ r2.lt (by omega)); replace t5 := t5.of_eq (ze.block _ t5.lt (by omega)); replace od := od.chg ze (by omega); clear rd; have rd := rd2; clear rd2; rw [hna]; refine ⟨_, rfl, ?_⟩; simp only [zn]; refine zx 1 ?_; refine qE (enters_of Tryz.func87 (by kernel_rfl) rfl) (c := KZ l i1 f1 b_rd b i2 f2 _ rd hl m1 HT2.out) (h := ?_); rintro e wn ⟨rfl, rd2, ze⟩; have zf := B.size; have zg := ze.size; replace B := qN.below B ze (by omega) B.size; replace r2 := r2.of_eq (ze.block _ r2.lt (by omega)); replace t5 := t5.of_eq (ze.block _ t5.lt (by omega))
   replace od := od.chg ze (by omega); clear rd; have rd := rd2; clear rd2; rw [hnb]; refine ⟨_, rfl, ?_⟩; simp only [zn]; refine zx 1 ?_
   (refine jw (t := 30) rfl _ _ rfl _ 1 rfl _ rfl t5 rfl (qt B (by omega) ?_); clear t5 B; intro wn t5 ze zf zg B; replace od := od.chg ze (by omega); (try replace r2 := r2.of_eq (ze.block _ r2.lt (by omega))); (try replace rd := rd.of_eq (ze.block _ rd.lt (by omega))); simp only [zn])
   refine zx 1 ?_
   (refine jw (t := 30) rfl _ _ rfl _ 2 rfl _ rfl t5 rfl (qt B (by omega) ?_); clear t5 B; intro wn t5 ze zf zg B; replace od := od.chg ze (by omega); (try replace r2 := r2.of_eq (ze.block _ r2.lt (by omega))); (try replace rd := rd.of_eq (ze.block _ rd.lt (by omega))); simp only [zn])
   refine wpList_nil ?_; replace t5 : zF 30 _ b_t5 (qw (.slice ap P.length cp) ⟨P, (na_ : Int), (nb_ : Int), Px.zero, false, 0⟩) := t5; go_upto_region 10 with fail
   refine wp_region_lit ?_; refine zx 1 ?_; refine qE (enters_of Tryz.func88 (by kernel_rfl) rfl) (c := ZE l i2 f2 b_rd 4 4 c i3 f3 _ rd hl m2 (by omega) rfl HT3.out) (h := ?_); rintro e wn ⟨rfl, rd2, ze⟩; have zf := B.size; have zg := ze.size; replace B := qN.below B ze (by omega) B.size; replace r2 := r2.of_eq (ze.block _ r2.lt (by omega)); replace t5 := t5.of_eq (ze.block _ t5.lt (by omega)); replace od := od.chg ze (by omega); clear rd; have rd := rd2; clear rd2; refine ⟨_, rfl, ?_⟩; simp only [zn]; refine zx 1 ?_; refine wpList_nil ?_; go_upto_region 11 with fail
   refine wp_region_lit ?_; refine zx 1 ?_; refine qE (enters_of Tryz.func87 (by kernel_rfl) rfl) (c := Jr l i3 f3 b_rd d i4 f4 _ rd hl m3 HT4.out) (h := ?_); rintro e wn ⟨rfl, rd2, ze⟩; have zf := B.size; have zg := ze.size; replace B := qN.below B ze (by omega) B.size; replace r2 := r2.of_eq (ze.block _ r2.lt (by omega)); replace t5 := t5.of_eq (ze.block _ t5.lt (by omega)); replace od := od.chg ze (by omega); clear rd; have rd := rd2; clear rd2; rw [hnd]; refine ⟨_, rfl, ?_⟩; simp only [zn]; refine zx 2 ?_
   (refine vT (t := 30) rfl _ _ rfl _ 7 rfl _ rfl t5 rfl (qt B (by omega) ?_); clear t5 B; intro wn t5 ze zf zg B; replace od := od.chg ze (by omega); (try replace r2 := r2.of_eq (ze.block _ r2.lt (by omega))); (try replace rd := rd.of_eq (ze.block _ rd.lt (by omega))); simp only [zn])
   refine wpList_nil ?_; replace t5 : zF 30 _ b_t5 (qw (.slice ap P.length cp) ⟨P, (na_ : Int), (nb_ : Int), Px.zero, decide (nd_ = 1), 0⟩) := t5; go_upto_region 12 with fail
   refine wp_region_lit ?_; refine zx 1 ?_; refine qE (enters_of Tryz.func87 (by kernel_rfl) rfl) (c := Js l i4 f4 b_rd e i5 f5 _ rd hl m4 HT5.out) (h := ?_); rintro e wn ⟨rfl, rd2, ze⟩; have zf := B.size; have zg := ze.size; replace B := qN.below B ze (by omega) B.size; replace r2 := r2.of_eq (ze.block _ r2.lt (by omega)); replace t5 := t5.of_eq (ze.block _ t5.lt (by omega)); replace od := od.chg ze (by omega); clear rd; have rd := rd2; clear rd2; rw [hne]; refine ⟨_, rfl, ?_⟩; simp only [zn]; refine zx 1 ?_
   (refine jw (t := 30) rfl _ _ rfl _ 8 rfl _ rfl t5 rfl (qt B (by omega) ?_); clear t5 B; intro wn t5 ze zf zg B; replace od := od.chg ze (by omega); (try replace r2 := r2.of_eq (ze.block _ r2.lt (by omega))); (try replace rd := rd.of_eq (ze.block _ rd.lt (by omega))); simp only [zn])
   refine wpList_nil ?_; replace t5 : zF 30 _ b_t5 (qw (.slice ap P.length cp) ⟨P, (na_ : Int), (nb_ : Int), Px.zero, decide (nd_ = 1), (ne_ : Int)⟩) := t5; go_upto_region 13 with fail
   refine wp_region_lit ?_; refine zx 1 ?_; refine qE (enters_of Tryz.func89 (by kernel_rfl) rfl) (c := Wb l i5 f5 b_rd _ rd) (h := ?_); rintro e wn ⟨rfl, za⟩; have zf := B.size; have zg := za.size; replace B := B.trans (za.mono B.size)
   (try replace r2 := r2.below za)
   (try replace t5 := t5.below za)
   (try replace od := od.below za)
   refine ⟨_, rfl, ?_⟩; simp only [zn]; refine wpList_nil ?_; by_cases hsh : l.length < 13 + 7 * k
   ·have h5 : f5 = true := HTL.out.bad hsh
    subst h5; have hS := HE.out; rw [Qr (by rw [HN.out]; exact hsh)] at hS
    injection hS with e1 e2
    subst e1 e2; clear od; go_upto_region 14 with fail
    refine wp_region_lit ?_
    (refine zM rfl (.agg #[.slice none 0 0, .int .i64 0, .int .i64 0, .int .u8 0, .int .u8 0, .int .u8 0, .int .u8 0, .bool false, .int .i64 0]) (by kernel_rfl) ?_; simp only [zn])
    (refine zp (t := 30) rfl _ _ rfl _ rfl _ rfl r2 (by kernel_rfl) rfl (by simp [qw, Value.oneCell']) (qt B (by omega) ?_); clear r2 B; intro wn r2 ze zf zg B; (try replace t5 := t5.of_eq (ze.block _ t5.lt (by omega))); simp only [zn])
    refine zx 1 ?_; refine wpList_nil ?_; first | (refine bodyPost_ret (zJ (t := 30) rfl _ _ (b_r2) rfl _ rfl r2 Tryz.isAgg30 (by kernel_rfl)) rfl ?_) | (go_step; refine bodyPost_ret (zJ (t := 30) rfl _ _ (b_r2) rfl _ rfl r2 Tryz.isAgg30 (by kernel_rfl)) rfl ?_) | (go_step; go_step; refine bodyPost_ret (zJ (t := 30) rfl _ _ (b_r2) rfl _ rfl r2 Tryz.isAgg30 (by kernel_rfl)) rfl ?_) | (go_step; go_step; go_step; refine bodyPost_ret (zJ (t := 30) rfl _ _ (b_r2) rfl _ rfl r2 Tryz.isAgg30 (by kernel_rfl)) rfl ?_) | (go_step; go_step; go_step; go_step; refine bodyPost_ret (zJ (t := 30) rfl _ _ (b_r2) rfl _ rfl r2 Tryz.isAgg30 (by kernel_rfl)) rfl ?_) | (go_step; go_step; go_step; go_step; go_step; refine bodyPost_ret (zJ (t := 30) rfl _ _ (b_r2) rfl _ rfl r2 Tryz.isAgg30 (by kernel_rfl)) rfl ?_) | (go_step; go_step; go_step; go_step; go_step; go_step; refine bodyPost_ret (zJ (t := 30) rfl _ _ (b_r2) rfl _ rfl r2 Tryz.isAgg30 (by kernel_rfl)) rfl ?_) | (go_step; go_step; go_step; go_step; go_step; go_step; go_step; refine bodyPost_ret (zJ (t := 30) rfl _ _ (b_r2) rfl _ rfl r2 Tryz.isAgg30 (by kernel_rfl)) rfl ?_)
    exact ⟨.slice none 0 0, rfl, (zW.nil (E := qD) 0 wn).rs, B⟩
   ·obtain ⟨h5, ea, eb, ec, ed, ee⟩ := HTL.out.good (by omega)
    simp only at h5; subst h5; have hcl : c.length = 4 := by rw [ec]; exact zcl (by omega)
    obtain ⟨g0, hg0⟩ : ∃ n, (c.getD 0 0).toNat = n := ⟨_, rfl⟩; obtain ⟨g1, hg1⟩ : ∃ n, (c.getD 1 0).toNat = n := ⟨_, rfl⟩; obtain ⟨g2, hg2⟩ : ∃ n, (c.getD 2 0).toNat = n := ⟨_, rfl⟩; obtain ⟨g3, hg3⟩ : ∃ n, (c.getD 3 0).toNat = n := ⟨_, rfl⟩; have hcc : ∀ j, j < 4 → c.getD j 0 = l.getD (5 + 7 * k + j) 0 := fun j hj => by
     rw [List.getD_eq_getElem?_getD, List.getD_eq_getElem?_getD, ec, VU hj]
    have hPar : QN l = ⟨P, (na_ : Int), (nb_ : Int), ⟨(g0 : Int), (g1 : Int), (g2 : Int), (g3 : Int)⟩, decide (nd_ = 1), (ne_ : Int)⟩ := by
     have hk := HK.out; rw [Kz l k (by omega)] at hk
     injection hk with hP _
     unfold QN; rw [HN.out]; unfold pkS Ks; rw [hP, ← ea, ← eb, ← ed, ← ee, hna, hnb, hnd, hne, ← hcc 1 (by omega), ← hcc 2 (by omega), ← hcc 3 (by omega), hg1, hg2, hg3]; have h0 := hcc 0 (by omega); rw [Nat.add_zero] at h0; rw [← h0, hg0]
    have okC : (⟨(g0 : Int), (g1 : Int), (g2 : Int), (g3 : Int)⟩ : Px).ok := by
     have := zdw l (5 + 7 * wA l); have e9 : (QN l).col = Ks l (5 + 7 * wA l) := rfl; rw [← e9, hPar] at this; exact this
    have HPAR := Lib.hid hPar; have OKC := Lib.hid okC; have HG0 := Lib.hid hg0; have HG1 := Lib.hid hg1; have HG2 := Lib.hid hg2; have HG3 := Lib.hid hg3; clear hPar okC hg0 hg1 hg2 hg3 ea eb ec ed ee hcc; have hPs : P.length ≤ 255 := by omega
    go_upto_region 15 with fail
    try have lx_r2 := r2.lt
    try have lx_t5 := t5.lt
    try have lx_od := od.lt
    refine zL 10 [] (by kernel_rfl) (by kernel_rfl) (by kernel_rfl) ?_
    rotate_left 0
    simp only [jU, Nat.reduceAdd]; refine ug 10 ?_; repeat (first | go_big_quiet_skip | (go_big_quiet_want; first | ((first | refine yL rfl c rfl _ rfl 0 g0 (by omega) (by first | rfl | omega) HG0.out ?_ | refine yL rfl c rfl _ rfl 1 g1 (by omega) (by first | rfl | omega) HG1.out ?_ | refine yL rfl c rfl _ rfl 2 g2 (by omega) (by first | rfl | omega) HG2.out ?_ | refine yL rfl c rfl _ rfl 3 g3 (by omega) (by first | rfl | omega) HG3.out ?_ | refine qB ?_ | refine qC ?_); simp only [zn]; go_big_quiet_on) | (go_big_quiet_op; go_big_quiet_on)))
    refine wpQuiet_nil ?_; refine qz ?_; intro wn za hE; have zf := B.size; have zg := za.size; replace B := B.trans (za.mono B.size)
    (try replace r2 := r2.below za)
    (try replace t5 := t5.below za)
    (try replace od := od.below za)
    clear hE; try simp only [List.drop_succ_cons, List.drop_zero]
    (refine Xi rfl _ _ rfl _ rfl ⟨(g0 : Int), (g1 : Int), (g2 : Int), (g3 : Int)⟩ rfl t5 (qt B (by omega) ?_); clear t5 B; intro wn t5 ze zf zg B; replace od := od.chg ze (by omega); (try replace r2 := r2.of_eq (ze.block _ r2.lt (by omega))); simp only [zn])
    refine wpList_nil ?_; refine zQ.normal ?_; obtain ⟨s1, hs1⟩ : ∃ s : qv, s = ⟨P, (na_ : Int), (nb_ : Int), ⟨(g0 : Int), (g1 : Int), (g2 : Int), (g3 : Int)⟩, decide (nd_ = 1), (ne_ : Int)⟩ := ⟨_, rfl⟩; replace t5 : zF 30 wn b_t5 (qw (.slice ap P.length cp) s1) := by rw [hs1]; exact t5
    have hsp : s1.pts = P := by rw [hs1]
    have hsc : s1.col.ok := by rw [hs1]; exact OKC.out
    rw [← hs1] at HPAR; have rsP : jF qD (.slice ap P.length cp) s1.pts wn := by rw [hsp]; exact od.rs
    have hsn : s1.pts.length ≤ 17592186044416 := by rw [hsp]; omega
    obtain ⟨Lb, hLb⟩ : ∃ b, xS s1 = b := ⟨_, rfl⟩; have HLB := Lib.hid hLb; have HSC := Lib.hid hsc; clear hs1 hLb hsc; have hpl : ¬ l.length < 13 + 7 * wA l := by rw [HN.out]; exact hsh
    by_cases heq : Lb = l
    ·have hz : (!decide (Lb = l)) = false := by rw [decide_eq_true heq]; rfl
     have hS := HE.out; rw [zdE hpl (by rw [HPAR.out, HLB.out]; exact heq), HPAR.out] at hS
     injection hS with e1 e2
     subst e1 e2; go_upto_region 16 with fail
     refine wp_region_lit ?_; refine jG 1 ?_
     repeat (first | go_big_quiet_skip | (go_big_quiet_want; first | ((first | refine kS rfl Lb l rfl rfl false hz ?_ | refine qB ?_ | refine qC ?_); simp only [zn]; go_big_quiet_on) | (go_big_quiet_op; go_big_quiet_on)))
     refine wpQuiet_nil ?_; refine qE (enters_of Tryz.func33 (by kernel_rfl) rfl) (c := ZR _ s1 Lb _ rsP hsn HSC.out HLB.out) (h := ?_); rintro e wn ⟨rfl, za⟩; have zf := B.size; have zg := za.size; replace B := B.trans (za.mono B.size)
     (try replace r2 := r2.below za)
     (try replace t5 := t5.below za)
     (try replace rsP := rsP.below za)
     (try replace od := od.below za)
     refine ⟨_, rfl, ?_⟩; simp only [zn]; refine jG 2 ?_; repeat (first | go_big_quiet_skip | (go_big_quiet_want; first | ((first | refine kS rfl Lb l rfl rfl false hz ?_ | refine qB ?_ | refine qC ?_); simp only [zn]; go_big_quiet_on) | (go_big_quiet_op; go_big_quiet_on)))
     refine wpQuiet_nil ?_; refine wpList_nil ?_; have HODP := Lib.hid od; have hlr2 := r2.lt; go_upto_region 18 with fail
     refine wp_region_lit ?_; refine zx 1 ?_
     (refine zp (t := 30) rfl _ _ rfl _ rfl _ rfl r2 (by kernel_rfl) rfl (by simp [qw, Value.oneCell']) (qt B (by omega) ?_); clear r2 B; intro wn r2 ze zf zg B; replace rsP : jF qD (.slice ap P.length cp) s1.pts wn := (by rw [hsp]; exact (zW.chg HODP.out ze (by omega)).rs); (try replace t5 := t5.of_eq (ze.block _ t5.lt (by omega))); simp only [zn])
     refine zx 1 ?_; refine wpList_nil ?_; first | (refine bodyPost_ret (zJ (t := 30) rfl _ _ (b_r2) rfl _ rfl r2 Tryz.isAgg30 (by kernel_rfl)) rfl ?_) | (go_step; refine bodyPost_ret (zJ (t := 30) rfl _ _ (b_r2) rfl _ rfl r2 Tryz.isAgg30 (by kernel_rfl)) rfl ?_) | (go_step; go_step; refine bodyPost_ret (zJ (t := 30) rfl _ _ (b_r2) rfl _ rfl r2 Tryz.isAgg30 (by kernel_rfl)) rfl ?_) | (go_step; go_step; go_step; refine bodyPost_ret (zJ (t := 30) rfl _ _ (b_r2) rfl _ rfl r2 Tryz.isAgg30 (by kernel_rfl)) rfl ?_) | (go_step; go_step; go_step; go_step; refine bodyPost_ret (zJ (t := 30) rfl _ _ (b_r2) rfl _ rfl r2 Tryz.isAgg30 (by kernel_rfl)) rfl ?_) | (go_step; go_step; go_step; go_step; go_step; refine bodyPost_ret (zJ (t := 30) rfl _ _ (b_r2) rfl _ rfl r2 Tryz.isAgg30 (by kernel_rfl)) rfl ?_) | (go_step; go_step; go_step; go_step; go_step; go_step; refine bodyPost_ret (zJ (t := 30) rfl _ _ (b_r2) rfl _ rfl r2 Tryz.isAgg30 (by kernel_rfl)) rfl ?_) | (go_step; go_step; go_step; go_step; go_step; go_step; go_step; refine bodyPost_ret (zJ (t := 30) rfl _ _ (b_r2) rfl _ rfl r2 Tryz.isAgg30 (by kernel_rfl)) rfl ?_)
     exact ⟨_, rfl, rsP, B⟩
    ·have hz : (!decide (Lb = l)) = true := by rw [decide_eq_false heq]; rfl
     have hS := HE.out; rw [WO hpl (by rw [HPAR.out, HLB.out]; exact heq)] at hS
     injection hS with e1 e2
     subst e1 e2; go_upto_region 16 with fail
     refine wp_region_lit ?_; refine jG 1 ?_
     repeat (first | go_big_quiet_skip | (go_big_quiet_want; first | ((first | refine kS rfl Lb l rfl rfl true hz ?_ | refine qB ?_ | refine qC ?_); simp only [zn]; go_big_quiet_on) | (go_big_quiet_op; go_big_quiet_on)))
     refine wpQuiet_nil ?_; refine qE (enters_of Tryz.func33 (by kernel_rfl) rfl) (c := ZR _ s1 Lb _ rsP hsn HSC.out HLB.out) (h := ?_); rintro e wn ⟨rfl, za⟩; have zf := B.size; have zg := za.size; replace B := B.trans (za.mono B.size)
     (try replace r2 := r2.below za)
     refine ⟨_, rfl, ?_⟩; simp only [zn]; refine jG 2 ?_; repeat (first | go_big_quiet_skip | (go_big_quiet_want; first | ((first | refine kS rfl Lb l rfl rfl true hz ?_ | refine qB ?_ | refine qC ?_); simp only [zn]; go_big_quiet_on) | (go_big_quiet_op; go_big_quiet_on)))
     refine wpQuiet_nil ?_; refine wpList_nil ?_; go_upto_region 17 with fail
     refine wp_region_lit ?_
     (refine zM rfl (.agg #[.slice none 0 0, .int .i64 0, .int .i64 0, .int .u8 0, .int .u8 0, .int .u8 0, .int .u8 0, .bool false, .int .i64 0]) (by kernel_rfl) ?_; simp only [zn])
     (refine zp (t := 30) rfl _ _ rfl _ rfl _ rfl r2 (by kernel_rfl) rfl (by simp [qw, Value.oneCell']) (qt B (by omega) ?_); clear r2 B; intro wn r2 ze zf zg B; simp only [zn])
     refine zx 1 ?_; refine wpList_nil ?_; first | (refine bodyPost_ret (zJ (t := 30) rfl _ _ (b_r2) rfl _ rfl r2 Tryz.isAgg30 (by kernel_rfl)) rfl ?_) | (go_step; refine bodyPost_ret (zJ (t := 30) rfl _ _ (b_r2) rfl _ rfl r2 Tryz.isAgg30 (by kernel_rfl)) rfl ?_) | (go_step; go_step; refine bodyPost_ret (zJ (t := 30) rfl _ _ (b_r2) rfl _ rfl r2 Tryz.isAgg30 (by kernel_rfl)) rfl ?_) | (go_step; go_step; go_step; refine bodyPost_ret (zJ (t := 30) rfl _ _ (b_r2) rfl _ rfl r2 Tryz.isAgg30 (by kernel_rfl)) rfl ?_) | (go_step; go_step; go_step; go_step; refine bodyPost_ret (zJ (t := 30) rfl _ _ (b_r2) rfl _ rfl r2 Tryz.isAgg30 (by kernel_rfl)) rfl ?_) | (go_step; go_step; go_step; go_step; go_step; refine bodyPost_ret (zJ (t := 30) rfl _ _ (b_r2) rfl _ rfl r2 Tryz.isAgg30 (by kernel_rfl)) rfl ?_) | (go_step; go_step; go_step; go_step; go_step; go_step; refine bodyPost_ret (zJ (t := 30) rfl _ _ (b_r2) rfl _ rfl r2 Tryz.isAgg30 (by kernel_rfl)) rfl ?_) | (go_step; go_step; go_step; go_step; go_step; go_step; go_step; refine bodyPost_ret (zJ (t := 30) rfl _ _ (b_r2) rfl _ rfl r2 Tryz.isAgg30 (by kernel_rfl)) rfl ?_)
     exact ⟨.slice none 0 0, rfl, (zW.nil (E := qD) 0 wn).rs, B⟩
end Go.Proofs.YtepelndbbhdofaaGreatDoor
/- Contract of the reference's Split. -/
namespace Go.Proofs.YtepelndbbhdofaaGreatDoor
open Go.RowKit Go.Shelf Pl
set_option linter.unusedVariables false
set_option linter.unusedSimpArgs false
set_option maxRecDepth 20000
def Qk (v : Value) (s : qv) (u : Value) (t : qv) (n : Int) : Array Value := #[v, .int .i64 s.rad, .int .i64 s.spa, .int .u8 s.col.r, .int .u8 s.col.g, .int .u8 s.col.b, .int .u8 s.col.a, .bool s.era, .int .i64 s.pha, u, .int .i64 t.rad, .int .i64 t.spa, .int .u8 t.col.r, .int .u8 t.col.g, .int .u8 t.col.b, .int .u8 t.col.a, .bool t.era, .int .i64 t.pha, .int .i64 n]
theorem zW.blt {α : Type} {k : Nat} {T ST : TypeId} {E : ZQ α k T ST} {B : Nat} {v : Value} {ls : List α} {w : World} (h : zW E B v ls w) : ∀ r, v.ownBlock = some r → r < w.heap.size := fun r e => by
 obtain ⟨cs, hcs⟩ := h.block e
 exact hcs.lt
theorem zW.belowO {α : Type} {k : Nat} {T ST : TypeId} {E : ZQ α k T ST} {B B' : Nat} {v : Value} {ls : List α} {w w' : World} (h : zW E B v ls w) (hr : ∀ r, v.ownBlock = some r → r < B') (hb : Below B' w w') : zW E B v ls w' := by
 obtain ⟨h1, h2⟩ := h
 rcases h2 with h2 | ⟨g, cap, cur, rfl, hg, hx, r⟩
 ·exact ⟨h1, .inl h2⟩
 ·exact ⟨h1, .inr ⟨g, cap, cur, rfl, hg, (hb.block g (hr g rfl)).trans hx, r⟩⟩
def qv.none : qv := ⟨[], 0, 0, Px.zero, false, 0⟩
theorem xq (w : World) (o : Oper) (ho : o.op = .alloc 57) (ev : Operand → Value) : (execOp ev o).run Tryz.prog w = .ok (.value (.pointer (some ⟨w.heap.size, 0, none⟩))) (w.alloc (.cells (Qk (.slice none 0 0) qv.none (.slice none 0 0) qv.none 0) 57)) := by
 obtain ⟨d, p, t, ps, af, gd⟩ := o
 simp only at ho
 subst ho
 kernel_rfl
set_option maxHeartbeats 4000000 in
/-- Split, refused. -/
theorem Y2 (v : Value) (s : qv) (at_ : Int) (w : World) (rs : jF qD v s.pts w) (hn : s.pts.length ≤ 17592186044416) (hno : qM s = false ∨ at_ < 1 ∨ (s.pts.length : Int) - 2 < at_) : Calls Tryz.prog 27 #[.agg (qw v s), .int .i64 at_] w fun e w' => ∃ va vb, e = .returned (.agg (Qk va qv.none vb qv.none 1)) ∧ zW qD w.heap.size va [] w' ∧ zW qD w.heap.size vb [] w' ∧ Below w.heap.size w w' := by
 have B := Below.refl w.heap.size w
 obtain ⟨a, c, rfl, hc⟩ := rs.len
 cases hv : qM s with
 | false =>
  have HV := Lib.hid hv; clear hv hno; go_enter Tryz.func27, Tryz.ntmps27
  go_upto_region 0 with fail
  refine wp_region_lit ?_
  (refine zt (t := 30) rfl _ rfl _ rfl (zV B ?_); clear B; intro b_r2 wn zb zd r2 za zf zk B; (try have zh := rs.lt); (try replace rs := rs.below (za.mono zb)); simp only [zn])
  (refine zr (t := 57) rfl _ (xq _ _ rfl) (zV B ?_); clear B; intro b_r4 wn zb zd r4 za zf zk B; (try have zh := r2.lt); (try replace r2 := r2.below (za.mono zb)); (try have zh := rs.lt); (try replace rs := rs.below (za.mono zb)); simp only [zn])
  refine wpList_nil ?_; have k1 : w.heap.size ≤ b_r2 := by omega
  have k2 : b_r2 < b_r4 := by have := r2.lt; omega
  go_upto_region 1 with fail
  refine wp_region_lit ?_; refine zx 1 ?_
  refine qE (enters_of Tryz.func17 (by kernel_rfl) rfl) (c := vY _ s false _ rs hn HV.out) (h := ?_); rintro e wn ⟨rfl, za⟩; have zf := B.size; have zg := za.size; replace B := B.trans (za.mono B.size)
  (try replace r2 := r2.below za)
  (try replace r4 := r4.below za)
  refine ⟨_, rfl, ?_⟩; simp only [zn]; refine zx 1 ?_; refine wpList_nil ?_; go_upto_region 2 with fail
  refine wp_region_lit ?_; refine zx 10 ?_
  refine zH ?hs3_10 ?_
  case hs3_10 => kernel_rfl
  simp only [zn]; refine zx 3 ?_; refine wpList_nil ?_; go_upto_region 3 with fail
  refine wp_region_lit ?_
  (refine zM rfl (.agg (Qk (.slice none 0 0) qv.none (.slice none 0 0) qv.none 1)) (by kernel_rfl) ?_; simp only [zn])
  (refine zp (t := 57) rfl _ _ rfl _ rfl _ rfl r4 (by kernel_rfl) rfl (by simp [qw, Qk, Value.oneCell']) (qt B (by omega) ?_); clear r4 B; intro wn r4 ze zf zg B; (try replace r2 := r2.of_eq (ze.block _ r2.lt (by omega))); simp only [zn])
  refine wpList_nil ?_; first | (refine bodyPost_ret (zv (t := 57) rfl _ _ (b_r4) rfl r4 Tryz.isAgg57 (by kernel_rfl)) rfl ?_) | (go_step; refine bodyPost_ret (zv (t := 57) rfl _ _ (b_r4) rfl r4 Tryz.isAgg57 (by kernel_rfl)) rfl ?_) | (go_step; go_step; refine bodyPost_ret (zv (t := 57) rfl _ _ (b_r4) rfl r4 Tryz.isAgg57 (by kernel_rfl)) rfl ?_) | (go_step; go_step; go_step; refine bodyPost_ret (zv (t := 57) rfl _ _ (b_r4) rfl r4 Tryz.isAgg57 (by kernel_rfl)) rfl ?_) | (go_step; go_step; go_step; go_step; refine bodyPost_ret (zv (t := 57) rfl _ _ (b_r4) rfl r4 Tryz.isAgg57 (by kernel_rfl)) rfl ?_) | (go_step; go_step; go_step; go_step; go_step; refine bodyPost_ret (zv (t := 57) rfl _ _ (b_r4) rfl r4 Tryz.isAgg57 (by kernel_rfl)) rfl ?_)
  exact ⟨_, _, rfl, zW.nil _ _, zW.nil _ _, B⟩
 | true =>
  have HV := Lib.hid hv; have hno2 : at_ < 1 ∨ (s.pts.length : Int) - 2 < at_ := by
   rcases hno with k | k
   ·rw [hv] at k; cases k
   ·exact k
  clear hv hno; by_cases h1 : at_ < 1
  ·have q1 : decide (at_ < 1) = true := decide_eq_true h1
   go_enter Tryz.func27, Tryz.ntmps27
   go_upto_region 0 with fail
   refine wp_region_lit ?_
   (refine zt (t := 30) rfl _ rfl _ rfl (zV B ?_); clear B; intro b_r2 wn zb zd r2 za zf zk B; (try have zh := r2.lt); (try replace r2 := r2.below (za.mono zb)); (try have zh := r4.lt); (try replace r4 := r4.below (za.mono zb)); (try have zh := rs.lt); (try replace rs := rs.below (za.mono zb)); simp only [zn])
   (refine zr (t := 57) rfl _ (xq _ _ rfl) (zV B ?_); clear B; intro b_r4 wn zb zd r4 za zf zk B; (try have zh := r2.lt); (try replace r2 := r2.below (za.mono zb)); (try have zh := r4.lt); (try replace r4 := r4.below (za.mono zb)); (try have zh := rs.lt); (try replace rs := rs.below (za.mono zb)); simp only [zn])
   refine wpList_nil ?_; have k1 : w.heap.size ≤ b_r2 := by omega
   have k2 : b_r2 < b_r4 := by have := r2.lt; omega
   go_upto_region 1 with fail
   refine wp_region_lit ?_; refine zx 1 ?_
   refine qE (enters_of Tryz.func17 (by kernel_rfl) rfl) (c := vY _ s true _ rs hn HV.out) (h := ?_); rintro e wn ⟨rfl, za⟩; have zf := B.size; have zg := za.size; replace B := B.trans (za.mono B.size)
   (try replace r2 := r2.below za)
   (try replace r4 := r4.below za)
   refine ⟨_, rfl, ?_⟩; simp only [zn]; refine zx 1 ?_; refine wpList_nil ?_; go_upto_region 2 with fail
   refine wp_region_lit ?_; refine zx 10 ?_
   refine zH ?hs7_10 ?_
   case hs7_10 => kernel_rfl
   simp only [zn]; refine zx 3 ?_; refine wpList_nil ?_; go_upto_region 3 with fail
   refine wp_region_lit ?_
   (refine zM rfl (.agg (Qk (.slice none 0 0) qv.none (.slice none 0 0) qv.none 1)) (by kernel_rfl) ?_; simp only [zn])
   (refine zp (t := 57) rfl _ _ rfl _ rfl _ rfl r4 (by kernel_rfl) rfl (by simp [qw, Qk, Value.oneCell']) (qt B (by omega) ?_); clear r4 B; intro wn r4 ze zf zg B; (try replace r2 := r2.of_eq (ze.block _ r2.lt (by omega))); simp only [zn])
   refine wpList_nil ?_; first | (refine bodyPost_ret (zv (t := 57) rfl _ _ (b_r4) rfl r4 Tryz.isAgg57 (by kernel_rfl)) rfl ?_) | (go_step; refine bodyPost_ret (zv (t := 57) rfl _ _ (b_r4) rfl r4 Tryz.isAgg57 (by kernel_rfl)) rfl ?_) | (go_step; go_step; refine bodyPost_ret (zv (t := 57) rfl _ _ (b_r4) rfl r4 Tryz.isAgg57 (by kernel_rfl)) rfl ?_) | (go_step; go_step; go_step; refine bodyPost_ret (zv (t := 57) rfl _ _ (b_r4) rfl r4 Tryz.isAgg57 (by kernel_rfl)) rfl ?_) | (go_step; go_step; go_step; go_step; refine bodyPost_ret (zv (t := 57) rfl _ _ (b_r4) rfl r4 Tryz.isAgg57 (by kernel_rfl)) rfl ?_) | (go_step; go_step; go_step; go_step; go_step; refine bodyPost_ret (zv (t := 57) rfl _ _ (b_r4) rfl r4 Tryz.isAgg57 (by kernel_rfl)) rfl ?_)
   exact ⟨_, _, rfl, zW.nil _ _, zW.nil _ _, B⟩
  ·have q1 : decide (at_ < 1) = false := decide_eq_false h1
   have q2 : decide ((s.pts.length : Int) - 2 < at_) = true := decide_eq_true (by omega); go_enter Tryz.func27, Tryz.ntmps27
   go_upto_region 0 with fail
   refine wp_region_lit ?_
   (refine zt (t := 30) rfl _ rfl _ rfl (zV B ?_); clear B; intro b_r2 wn zb zd r2 za zf zk B; (try have zh := r2.lt); (try replace r2 := r2.below (za.mono zb)); (try have zh := r4.lt); (try replace r4 := r4.below (za.mono zb)); (try have zh := rs.lt); (try replace rs := rs.below (za.mono zb)); simp only [zn])
   (refine zr (t := 57) rfl _ (xq _ _ rfl) (zV B ?_); clear B; intro b_r4 wn zb zd r4 za zf zk B; (try have zh := r2.lt); (try replace r2 := r2.below (za.mono zb)); (try have zh := r4.lt); (try replace r4 := r4.below (za.mono zb)); (try have zh := rs.lt); (try replace rs := rs.below (za.mono zb)); simp only [zn])
   refine wpList_nil ?_; have k1 : w.heap.size ≤ b_r2 := by omega
   have k2 : b_r2 < b_r4 := by have := r2.lt; omega
   go_upto_region 1 with fail
   refine wp_region_lit ?_; refine zx 1 ?_
   refine qE (enters_of Tryz.func17 (by kernel_rfl) rfl) (c := vY _ s true _ rs hn HV.out) (h := ?_); rintro e wn ⟨rfl, za⟩; have zf := B.size; have zg := za.size; replace B := B.trans (za.mono B.size)
   (try replace r2 := r2.below za)
   (try replace r4 := r4.below za)
   refine ⟨_, rfl, ?_⟩; simp only [zn]; refine zx 1 ?_; refine wpList_nil ?_; go_upto_region 2 with fail
   refine wp_region_lit ?_; refine zx 10 ?_
   refine zw (by first | rfl | simp [Region.wanted, yielded]) rfl Tryz.underlying26 rfl ?_; simp only [zn]; refine zx 3 ?_; refine wpList_nil ?_; go_upto_region 3 with fail
   refine wp_region_lit ?_
   (refine zM rfl (.agg (Qk (.slice none 0 0) qv.none (.slice none 0 0) qv.none 1)) (by kernel_rfl) ?_; simp only [zn])
   (refine zp (t := 57) rfl _ _ rfl _ rfl _ rfl r4 (by kernel_rfl) rfl (by simp [qw, Qk, Value.oneCell']) (qt B (by omega) ?_); clear r4 B; intro wn r4 ze zf zg B; simp only [zn])
   refine wpList_nil ?_; first | (refine bodyPost_ret (zv (t := 57) rfl _ _ (b_r4) rfl r4 Tryz.isAgg57 (by kernel_rfl)) rfl ?_) | (go_step; refine bodyPost_ret (zv (t := 57) rfl _ _ (b_r4) rfl r4 Tryz.isAgg57 (by kernel_rfl)) rfl ?_) | (go_step; go_step; refine bodyPost_ret (zv (t := 57) rfl _ _ (b_r4) rfl r4 Tryz.isAgg57 (by kernel_rfl)) rfl ?_) | (go_step; go_step; go_step; refine bodyPost_ret (zv (t := 57) rfl _ _ (b_r4) rfl r4 Tryz.isAgg57 (by kernel_rfl)) rfl ?_) | (go_step; go_step; go_step; go_step; refine bodyPost_ret (zv (t := 57) rfl _ _ (b_r4) rfl r4 Tryz.isAgg57 (by kernel_rfl)) rfl ?_) | (go_step; go_step; go_step; go_step; go_step; refine bodyPost_ret (zv (t := 57) rfl _ _ (b_r4) rfl r4 Tryz.isAgg57 (by kernel_rfl)) rfl ?_)
   exact ⟨_, _, rfl, zW.nil _ _, zW.nil _ _, B⟩
set_option maxHeartbeats 8000000 in
/-- Split, done. -/
theorem Y3 (v : Value) (s : qv) (k : Nat) (w : World) (rs : jF qD v s.pts w) (hv : qM s = true) (h1 : 1 ≤ k) (h2 : k + 2 ≤ s.pts.length) : Calls Tryz.prog 27 #[.agg (qw v s), .int .i64 (k : Int)] w fun e w' => ∃ va vb, e = .returned (.agg (Qk va (u7 s k) vb (uh s k) 0)) ∧ zW qD w.heap.size va (u7 s k).pts w' ∧ zW qD w.heap.size vb (uh s k).pts w' ∧ Below w.heap.size w w' := by
 have B := Below.refl w.heap.size w
 obtain ⟨a, c, rfl, hc⟩ := rs.len
 have HV := Lib.hid hv
 have HVS := Lib.hid ((jj s).1 hv)
 have hl2 := HVS.out.l2
 have hn : s.pts.length ≤ 17592186044416 := by omega
 obtain ⟨g, o, rfl, pc0⟩ := rs.at (by omega)
 have HPC := Lib.hid pc0
 have hg := pc0.lt
 have q1 : decide ((k : Int) < 1) = false := decide_eq_false (by omega)
 have q2 : decide ((s.pts.length : Int) - 2 < (k : Int)) = false := decide_eq_false (by omega)
 clear hv pc0
 go_enter Tryz.func27, Tryz.ntmps27
 go_upto_region 0 with fail
 refine wp_region_lit ?_
 (refine zt (t := 30) rfl _ rfl _ rfl (zV B ?_); clear B; intro b_r2 wn zb zd r2 za zf zk B; (try have zh := rs.lt); (try replace rs := rs.below (za.mono zb)); simp only [zn])
 (refine zr (t := 57) rfl _ (xq _ _ rfl) (zV B ?_); clear B; intro b_r4 wn zb zd r4 za zf zk B; (try have zh := r2.lt); (try replace r2 := r2.below (za.mono zb)); (try have zh := rs.lt); (try replace rs := rs.below (za.mono zb)); simp only [zn])
 refine wpList_nil ?_
 have k1 : w.heap.size ≤ b_r2 := by omega
 have k2 : b_r2 < b_r4 := by have := r2.lt; omega
 go_upto_region 1 with fail
 refine wp_region_lit ?_
 refine zx 1 ?_
 refine qE (enters_of Tryz.func17 (by kernel_rfl) rfl) (c := vY _ s true _ rs hn HV.out) (h := ?_)
 rintro e wn ⟨rfl, za⟩
 have zf := B.size
 have zg := za.size
 replace B := B.trans (za.mono B.size)
 (try replace r2 := r2.below za)
 (try replace r4 := r4.below za)
 refine ⟨_, rfl, ?_⟩
 simp only [zn]
 refine zx 1 ?_
 refine wpList_nil ?_
 go_upto_region 2 with fail
 refine wp_region_lit ?_
 refine zx 10 ?_
 refine zw (by first | rfl | simp [Region.wanted, yielded]) rfl Tryz.underlying26 rfl ?_
 simp only [zn]
 refine zx 3 ?_
 refine wpList_nil ?_
 clear rs
 obtain ⟨PA, hPA⟩ : ∃ l, s.pts.take (k + 1) = l := ⟨_, rfl⟩
 obtain ⟨PB, hPB⟩ : ∃ l, s.pts.drop k = l := ⟨_, rfl⟩
 have HLA := Lib.hid (show PA.length = k + 1 from by rw [← hPA, List.length_take]; omega)
 have HLB := Lib.hid (show PB.length = s.pts.length - k from by rw [← hPB, List.length_drop])
 have HPA := Lib.hid hPA
 have HPB := Lib.hid hPB
 have HOKA := Lib.hid (show ∀ a ∈ PA, Zl a from fun a ha => HVS.out.ok a (by rw [← hPA] at ha; exact List.mem_of_mem_take ha))
 obtain ⟨t, ht⟩ : ∃ t, jI PA = t := ⟨_, rfl⟩
 have HT := Lib.hid ht
 have htk : qi s.pts k = t := by
  have h4 := vQ (s := s) (at_ := k) (by omega); rw [hPA, ht] at h4; exact h4.symm
 have htb : 0 ≤ t ∧ t ≤ 189812544 := by
  have h3 := HVS.out.pre (show k < s.pts.length by omega); omega
 have HPH := Lib.hid (show uC s k = s.pha + (ceilN t s.pha s.spa : Nat) * s.spa - t from by rw [uD HVS.out (by omega), htk])
 have RA := Lib.hid (show ∀ W, zK qD g o s.pts W → jF qD (.slice (some ⟨g, o, none⟩) (k + 1) c) PA W from fun W h => by rw [← hPA]; exact h.taken (by omega) (by omega))
 have RB := Lib.hid (show ∀ W, zK qD g o s.pts W → jF qD (.slice (some ⟨g, o + k * 3, none⟩) (s.pts.length - k) (c - k)) PB W from fun W h => by rw [← hPB]; exact h.dropped rfl (by omega))
 have hs1 := HVS.out.s1
 have hs2 := HVS.out.s2
 have hq1 := HVS.out.p1
 have hq2 := HVS.out.p2
 have hkc : ¬ c = k := by omega
 have u1 : decide (k ≤ c) = true := decide_eq_true (by omega)
 have u2 : decide (k + 1 ≤ c) = true := decide_eq_true (by omega)
 have u3 : decide (k ≤ s.pts.length) = true := decide_eq_true (by omega)
 clear hPA hPB ht htk
 go_upto_region 4 with fail
 refine wp_region_lit ?_
 refine zx 1 ?_
 (refine zr (t := 30) rfl _ (zG _ _ rfl) (zV B ?_); clear B; intro b_r6 wn zb zd r6 za zf zk B; (try have zh := r2.lt); (try replace r2 := r2.below (za.mono zb)); (try have zh := r4.lt); (try replace r4 := r4.below (za.mono zb)); simp only [zn])
 (refine zp (t := 30) rfl _ _ rfl _ rfl _ rfl r6 (by kernel_rfl) rfl (by simp [qw, Qk, Value.oneCell']) (qt B (by omega) ?_); clear r6 B; intro wn r6 ze zf zg B; (try replace r2 := r2.of_eq (ze.block _ r2.lt (by omega))); (try replace r4 := r4.of_eq (ze.block _ r4.lt (by omega))); simp only [zn])
 refine wpList_nil ?_
 replace r6 : zF 30 _ b_r6 (qw (.slice (some ⟨g, o, none⟩) s.pts.length c) s) := r6
 have k3 : b_r4 < b_r6 := by have := r4.lt; omega
 have h6 := r6.lt
 go_upto_region 5 with fail
 refine wp_region_lit ?_
 refine zx 1 ?_
 (refine zr (t := 30) rfl _ (zG _ _ rfl) (zV B ?_); clear B; intro b_r7 wn zb zd r7 za zf zk B; (try have zh := r2.lt); (try replace r2 := r2.below (za.mono zb)); (try have zh := r4.lt); (try replace r4 := r4.below (za.mono zb)); (try have zh := r6.lt); (try replace r6 := r6.below (za.mono zb)); simp only [zn])
 (refine zp (t := 30) rfl _ _ rfl _ rfl _ rfl r7 (by kernel_rfl) rfl (by simp [qw, Qk, Value.oneCell']) (qt B (by omega) ?_); clear r7 B; intro wn r7 ze zf zg B; (try replace r2 := r2.of_eq (ze.block _ r2.lt (by omega))); (try replace r4 := r4.of_eq (ze.block _ r4.lt (by omega))); (try replace r6 := r6.of_eq (ze.block _ r6.lt (by omega))); simp only [zn])
 refine wpList_nil ?_
 replace r7 : zF 30 _ b_r7 (qw (.slice (some ⟨g, o, none⟩) s.pts.length c) s) := r7
 have k4 : b_r6 < b_r7 := by omega
 have h7 := r7.lt
 have pc := HPC.out.of_eq (B.block _ HPC.out.lt)
 have hla := HLA.out
 have hlb := HLB.out
 go_upto_region 6 with fail
 refine wp_region_lit ?_
 (refine y6 rfl rfl (zV B ?_); clear B; intro b_oa wn zb zd oa za zf zk B; (try have zh := r2.lt); (try replace r2 := r2.below (za.mono zb)); (try have zh := r4.lt); (try replace r4 := r4.below (za.mono zb)); (try have zh := r6.lt); (try replace r6 := r6.below (za.mono zb)); (try have zh := r7.lt); (try replace r7 := r7.below (za.mono zb)); (try have zh := pc.lt); (try replace pc := pc.below (za.mono zb)); simp only [zn])
 refine zx 5 ?_
 (at_builtin; refine xm rfl _ _ rfl _ _ rfl rfl oa ((RA.out _ pc)) (by simp only [List.length_nil]; omega) (by omega) ?_; intro v_oa wn ht za; have zf := B.size; have hbz := za.size; replace B := B.trans (za.mono (by omega)); clear oa; (try replace r2 := r2.of_eq (za.block _ (by omega))); (try replace r4 := r4.of_eq (za.block _ (by omega))); (try replace r6 := r6.of_eq (za.block _ (by omega))); (try replace r7 := r7.of_eq (za.block _ (by omega))); (try replace pc := pc.of_eq (za.block _ (by omega))); have oa := ht; clear ht; obtain ⟨a_oa, c_oa, hv, hco⟩ := oa.len; (try simp only [List.length_append, List.length_cons, List.length_nil, Nat.zero_add] at hv hco); subst hv; simp only [zn])
 refine zx 1 ?_
 (refine jQ (t := 30) rfl _ _ rfl _ 0 rfl _ _ _ rfl r6 rfl (qt B (by omega) ?_); clear r6 B; intro wn r6 ze zf zg B; replace oa := oa.chg ze (by omega); (try replace r2 := r2.of_eq (ze.block _ r2.lt (by omega))); (try replace r4 := r4.of_eq (ze.block _ r4.lt (by omega))); (try replace r7 := r7.of_eq (ze.block _ r7.lt (by omega))); (try replace pc := pc.of_eq (ze.block _ pc.lt (by omega))); simp only [zn])
 refine wpList_nil ?_
 rw [List.nil_append] at oa
 replace r6 : zF 30 _ b_r6 (qw (.slice a_oa PA.length c_oa) s) := r6
 have hba : b_r7 < b_oa := by omega
 have HBA := oa.blt
 have hwa : b_oa ≤ wn.heap.size := by omega
 obtain ⟨z6, hz6⟩ : ∃ z, z = wn.heap.size := ⟨_, rfl⟩
 rw [← hz6] at HBA
 have hz6b : b_oa ≤ z6 := by omega
 go_upto_region 7 with fail
 refine wp_region_lit ?_
 (refine y6 rfl rfl ?_; intro b_ob wn zb zd ht za zg; have zf := B.size; have hzb : z6 ≤ b_ob := (by omega); replace B := B.trans (za.mono (by omega)); have zk := Nat.lt_of_lt_of_eq (Nat.lt_succ_self _) zg.symm; clear zg; (try have zh := r2.lt); (try replace r2 := r2.below (za.mono zb)); (try have zh := r4.lt); (try replace r4 := r4.below (za.mono zb)); (try have zh := r6.lt); (try replace r6 := r6.below (za.mono zb)); (try have zh := r7.lt); (try replace r7 := r7.below (za.mono zb)); (try have zh := pc.lt); (try replace pc := pc.below (za.mono zb)); (try have zh := oa.lt); (try replace oa := oa.below (za.mono zb)); have ob := ht; clear ht; simp only [zn])
 refine zx 4 ?_
 (at_builtin; refine xm rfl _ _ rfl _ _ rfl rfl ob ((RB.out _ pc)) (by simp only [List.length_nil]; omega) (by omega) ?_; intro v_ob wn ht za; have zf := B.size; replace oa := oa.belowO (fun r e => Nat.lt_of_lt_of_le (HBA r e) hzb) za; have hbz := za.size; replace B := B.trans (za.mono (by omega)); clear ob; (try replace r2 := r2.of_eq (za.block _ (by omega))); (try replace r4 := r4.of_eq (za.block _ (by omega))); (try replace r6 := r6.of_eq (za.block _ (by omega))); (try replace r7 := r7.of_eq (za.block _ (by omega))); (try replace pc := pc.of_eq (za.block _ (by omega))); have ob := ht; clear ht; obtain ⟨a_ob, c_ob, hv, hco⟩ := ob.len; (try simp only [List.length_append, List.length_cons, List.length_nil, Nat.zero_add] at hv hco); subst hv; simp only [zn])
 refine zx 1 ?_
 (refine jQ (t := 30) rfl _ _ rfl _ 0 rfl _ _ _ rfl r7 rfl (qt B (by omega) ?_); clear r7 B; intro wn r7 ze zf zg B; replace oa := oa.chg ze (by omega); replace ob := ob.chg ze (by omega); (try replace r2 := r2.of_eq (ze.block _ r2.lt (by omega))); (try replace r4 := r4.of_eq (ze.block _ r4.lt (by omega))); (try replace r6 := r6.of_eq (ze.block _ r6.lt (by omega))); (try replace pc := pc.of_eq (ze.block _ pc.lt (by omega))); simp only [zn])
 refine wpList_nil ?_
 rw [List.nil_append] at ob
 replace r7 : zF 30 _ b_r7 (qw (.slice a_ob PB.length c_ob) s) := r7
 have hob : b_oa ≤ b_ob := by omega
 clear pc hz6
 go_upto_region 8 with fail
 have rs7 := oa.rs
 refine wp_region_lit ?_
 refine zx 2 ?_
 refine qE (enters_of Tryz.func56 (by kernel_rfl) rfl) (c := Vb _ PA t _ rs7 (by omega) HOKA.out HT.out) (h := ?_)
 rintro e wn ⟨rfl, za⟩
 have zf := B.size
 have zg := za.size
 replace B := B.trans (za.mono B.size)
 (try replace r2 := r2.below za)
 (try replace r4 := r4.below za)
 (try replace r6 := r6.below za)
 (try replace r7 := r7.below za)
 (try replace oa := oa.below za)
 (try replace ob := ob.below za)
 (try replace rs7 := rs7.below za)
 refine ⟨_, rfl, ?_⟩
 simp only [zn]
 refine zx 1 ?_
 refine wpList_nil ?_
 clear rs7
 go_upto_region 9 with fail
 refine wp_region_lit ?_
 refine zx 3 ?_
 refine wpList_nil ?_
 go_wp2
 go_loopw [9] (fun dv wr => ∃ (j : Nat) (d : Int), j ≤ ceilN t s.pha s.spa ∧ dv = .int .i64 d ∧ Hid (d = s.pha + j * s.spa) ∧ (0 ≤ d ∧ d ≤ 200000000) ∧ Below w.heap.size w wr ∧ zF 30 wr b_r2 (qw (.slice (some ⟨g, o, none⟩) s.pts.length c) s) ∧ zF 57 wr b_r4 (Qk (.slice none 0 0) qv.none (.slice none 0 0) qv.none 0) ∧ zF 30 wr b_r6 (qw (.slice a_oa PA.length c_oa) s) ∧ zF 30 wr b_r7 (qw (.slice a_ob PB.length c_ob) s) ∧ zW qD b_oa (.slice a_oa PA.length c_oa) PA wr ∧ zW qD b_ob (.slice a_ob PB.length c_ob) PB wr) (fun dv _ => (t - intOf dv).toNat)
 case atStart => exact ⟨0, s.pha, by omega, rfl, Lib.hid (by show s.pha = s.pha + ((0 : Nat) : Int) * s.spa; omega), by omega, B, r2, r4, r6, r7, oa, ob⟩
 case round =>
  clear B r2 r4 r6 r7 oa ob; obtain ⟨j, d, hj, rfl, HD, hd, B, r2, r4, r6, r7, oa, ob⟩ := hrel; have hr7l := r7.lt; by_cases hdt : d < t
  ·have q3 : decide (d < t) = true := decide_eq_true hdt
   have hjc : j < ceilN t s.pha s.spa := (yt hs1).2 (by rw [← HD.out]; exact hdt)
   have HN := Lib.hid (show d + s.spa = s.pha + ((j + 1 : Nat) : Int) * s.spa from by rw [X8, HD.out]); go_upto_region 10 with fail
   refine wp_region_lit ?_; refine zx 3 ?_; refine wpList_nil ?_; go_upto_region 11 with fail
   refine wp_region_lit ?_; refine zx 5 ?_
   refine wpList_nil ?_; go_wp2; go_roundw
   case rel => exact ⟨j + 1, d + s.spa, hjc, rfl, HN, by omega, B, r2, r4, r6, r7, oa, ob⟩
   case measure => simp [intOf]; omega
  ·have q3 : decide (d < t) = false := decide_eq_false hdt
   obtain ⟨ph, hph⟩ : ∃ p, d - t = p := ⟨_, rfl⟩; have HPHV := Lib.hid hph; have HPV := Lib.hid (show uC s k = ph from by
    have e1 : ceilN t s.pha s.spa ≤ j := (ul hs1).2 (by rw [← HD.out]; omega)
    rw [HPH.out, show ceilN t s.pha s.spa = j by omega, ← HD.out, hph])
   clear hph; go_upto_region 10 with fail
   refine wp_region_lit ?_; refine zx 3 ?_; refine wpList_nil ?_; go_upto_region 12 with fail
   refine wp_region_lit ?_; refine zx 4 ?_
   (refine jw (t := 30) rfl _ _ rfl _ 8 rfl _ rfl r7 rfl (qt B (by omega) ?_); clear r7 B; intro wn r7 ze zf zg B; replace oa := oa.chg ze (by omega); replace ob := ob.chg ze (by omega); (try replace r4 := r4.of_eq (ze.block _ r4.lt (by omega))); (try replace r6 := r6.of_eq (ze.block _ r6.lt (by omega))); simp only [zn])
   refine wpList_nil ?_; replace r7 : zF 30 _ b_r7 (qw (.slice a_ob PB.length c_ob) ⟨s.pts, s.rad, s.spa, s.col, s.era, d - t⟩) := r7; rw [HPHV.out] at r7; go_upto_region 13 with fail
   refine wp_region_lit ?_; refine zx 2 ?_
   (refine zM rfl (.agg (Qk (.slice a_oa PA.length c_oa) s (.slice a_ob PB.length c_ob) ⟨s.pts, s.rad, s.spa, s.col, s.era, ph⟩ 0)) (by kernel_rfl) ?_; simp only [zn])
   (refine zp (t := 57) rfl _ _ rfl _ rfl _ rfl r4 (by kernel_rfl) rfl (by simp [qw, Qk, Value.oneCell']) (qt B (by omega) ?_); clear r4 B; intro wn r4 ze zf zg B; replace oa := oa.chg ze (by omega); replace ob := ob.chg ze (by omega); simp only [zn])
   refine wpList_nil ?_; first | (refine bodyPost_ret (zv (t := 57) rfl _ _ (b_r4) rfl r4 Tryz.isAgg57 (by kernel_rfl)) rfl ?_) | (go_step; refine bodyPost_ret (zv (t := 57) rfl _ _ (b_r4) rfl r4 Tryz.isAgg57 (by kernel_rfl)) rfl ?_) | (go_step; go_step; refine bodyPost_ret (zv (t := 57) rfl _ _ (b_r4) rfl r4 Tryz.isAgg57 (by kernel_rfl)) rfl ?_) | (go_step; go_step; go_step; refine bodyPost_ret (zv (t := 57) rfl _ _ (b_r4) rfl r4 Tryz.isAgg57 (by kernel_rfl)) rfl ?_) | (go_step; go_step; go_step; go_step; refine bodyPost_ret (zv (t := 57) rfl _ _ (b_r4) rfl r4 Tryz.isAgg57 (by kernel_rfl)) rfl ?_) | (go_step; go_step; go_step; go_step; go_step; refine bodyPost_ret (zv (t := 57) rfl _ _ (b_r4) rfl r4 Tryz.isAgg57 (by kernel_rfl)) rfl ?_)
   have e4 : Qk (.slice a_oa PA.length c_oa) s (.slice a_ob PB.length c_ob) ⟨s.pts, s.rad, s.spa, s.col, s.era, ph⟩ 0 = Qk (.slice a_oa PA.length c_oa) (u7 s k) (.slice a_ob PB.length c_ob) (uh s k) 0 := by rw [← HPV.out]; rfl
   rw [e4]; exact ⟨_, _, rfl, by show zW qD _ _ (s.pts.take (k + 1)) _; rw [HPA.out]; exact oa.mono (by omega), by show zW qD _ _ (s.pts.drop k) _; rw [HPB.out]; exact ob.mono (by omega), B⟩
/- Contracts of Shift of package stroke and of its reference. -/
/-! ### Points written in place in a row of the call's own -/
theorem Jc {f : Nat} (hf : f < 3) (v : Value) (a' : Sp) : ∀ (l : List Sp) (i : Nat), i < l.length → qD.enc a' = (qD.enc (qR l i)).setIfInBounds f v → (jH qD l).set (i * 3 + f) v = jH qD (l.set i a')
 | [], i, h, _ => absurd h (Nat.not_lt_zero _)
 | a :: r, 0, _, he => by
  have he : qD.enc a' = (qD.enc a).setIfInBounds f v := he; show ((qD.enc a).toList ++ jH qD r).set (0 * 3 + f) v = (qD.enc a').toList ++ jH qD r
  rw [List.set_append_left _ _ (by rw [Array.length_toList, qD.size]; omega), he, Array.toList_setIfInBounds, Nat.zero_mul, Nat.zero_add]
 | a :: r, i + 1, h, he => by
  have he : qD.enc a' = (qD.enc (qR r i)).setIfInBounds f v := he; show ((qD.enc a).toList ++ jH qD r).set ((i + 1) * 3 + f) v = (qD.enc a).toList ++ jH qD (r.set i a')
  have hl : (qD.enc a).toList.length = 3 := by rw [Array.length_toList, qD.size]
  rw [List.set_append_right _ _ (by rw [hl]; omega), hl, ← Jc hf v a' r i (by simpa using h) he]
  congr 2
  omega
theorem zW.setF {B g n c : Nat} {l : List Sp} {w : World} (h : zW qD B (.slice (some ⟨g, 0, none⟩) n c) l w) (hn : n = l.length) {i f : Nat} (hi : i < l.length) (hf : f < 3) (z : Int) (a' : Sp) (he : qD.enc a' = (qD.enc (qR l i)).setIfInBounds f (.int .i64 z)) : zW qD B (.slice (some ⟨g, 0, none⟩) n c) (l.set i a') (w.setCell ⟨g, i * 3 + f, none⟩ (.int .i64 z)) := by
 obtain ⟨h1, h2⟩ := h
 rcases h2 with ⟨e, _⟩ | ⟨g', cap, cur, e, hg, hx, k1, k2, k3, k4⟩
 ·cases e
 ·injection e with e1 e2 e3
  injection e1 with e1
  injection e1 with e1 _ _
  subst e1 e3; have hr := Jc hf (.int .i64 z) a' l i hi he; refine ⟨by rw [← hr, List.length_set, h1]; simp, .inr ⟨g, c, cur.setIfInBounds (i * 3 + f) (.int .i64 z), by rw [List.length_set, hn], hg, heap_setCell_same w g (i * 3 + f) cur _ _ hx, by rw [List.length_set, ← hn, e2]; exact k1, k2, by rw [Array.size_setIfInBounds]; exact k3, ?_⟩⟩
  rw [← hr, ← k4, Array.toList_setIfInBounds, List.length_set, List.take_set]
theorem vf {ops : Array Oper} {rest : List Oper} {o : Oper} {a : Act} {w : World} {Q : Exit → Act → World → Prop} (hg : o.guard = none) (x y : Operand) (ho : o.op = .store 3 x y) (g j : Nat) (hx : a.eval x = .pointer (some ⟨g, j, none⟩)) (z : Int) (hy : a.eval y = .int .i64 z) {B n c : Nat} {l : List Sp} (h : zW qD B (.slice (some ⟨g, 0, none⟩) n c) l w) (hn : n = l.length) (i f : Nat) (hi : i < l.length) (hf : f < 3) (hj : j = i * 3 + f) (a' : Sp) (he : qD.enc a' = (qD.enc (qR l i)).setIfInBounds f (.int .i64 z))
  (hk : ∀ w', zW qD B (.slice (some ⟨g, 0, none⟩) n c) (l.set i a') w' → qN g w w' → w'.heap.size = w.heap.size → wpList Tryz.prog ops Q rest (a.put o.dst undef) w') : wpList Tryz.prog ops Q (o :: rest) a w := by
 subst hj
 obtain ⟨cs, hcs⟩ := h.block (b := g) rfl
 have f0 := (z2 hcs).2 (i * 3 + f)
 have c0 : ∃ u, w.cell? ⟨g, i * 3 + f, none⟩ = some u := by
  obtain ⟨g2, o2, e2, rc⟩ := h.rs.at (by omega); obtain ⟨rfl, rfl⟩ : g = g2 ∧ 0 = o2 := by simpa using e2
  have h1 := rc.2 i (qR l i) (qW hi) f hf; rw [Nat.zero_add] at h1; have hs : f < (qD.enc (qR l i)).size := by rw [qD.size]; exact hf
  exact ⟨_, h1.trans (Array.getElem?_eq_getElem hs)⟩
 obtain ⟨u, c0⟩ := c0
 refine qe hg x y ho (w.setCell ⟨g, i * 3 + f, none⟩ (.int .i64 z)) ?_ (hk _ (h.setF hn hi hf z a' he) ((qN.refl g w).setCell _) (by simp only [World.size_setCell]))
 rw [hx, hy]
 simp [go_sem, c0, f0]
def shK (X Y : Int) (l : List Sp) (k : Nat) : List Sp := (l.take k).map (shP X Y) ++ l.drop k
/- Contract of Paste of the reference. -/
end Go.Proofs.YtepelndbbhdofaaGreatDoor
/- Paste of both packages, whether the rectangle fits or not. -/
namespace Go.Proofs.YtepelndbbhdofaaGreatDoor
open Go.RowKit Go.Shelf Pl
set_option linter.unusedVariables false
set_option linter.unusedSimpArgs false
theorem zaD (v : Value) (ls : List TA) (c : Rc) (u : Value) (L : List Px) (w : World) (h : RS v ls w) (tk : jc ls) (hn : ls.length ≤ maxLen) (hu : jF ka u L w) (hLn : L.length ≤ maxLen) (okL : V3 L) : Calls Tryz.prog 77 #[.agg #[v], .agg (xg c u)] w fun e w' => ∃ a cp, e = .returned (.tuple #[.agg #[.slice a (kE c L ls).length cp], .int .i64 (uE c L ls)]) ∧ RS (.slice a (kE c L ls).length cp) (kE c L ls) w' ∧ Below w.heap.size w w' := by
 obtain ⟨ad, cu, rfl, hcu⟩ := hu.len
 by_cases hV : jN c = true
 ·by_cases hA : (L.length : Int) = vj c
  ·have e1 : kE c L ls = if jr c = 0 then yw (xp c L (qX ls) (yx c)) else [] := if_pos ⟨hV, hA⟩
   have e2 : uE c L ls = if jr c = 0 then kC (xp c L (qX ls) (yx c)) else jr c := if_pos ⟨hV, hA⟩
   by_cases hF : jr c = 0
   ·rw [e1, e2, if_pos hF, if_pos hF]
    have hL : L.length = areaN c := by have := Z0 (yh hF); omega
    exact YY v ls c _ L w h tk hn hF hu hL okL
   ·rw [e1, e2, if_neg hF, if_neg hF]
    refine (Xt v ls c ad L.length cu w h hLn hV hA.symm _ rfl hF).mono fun e w' ⟨he, hb⟩ => ?_
    exact ⟨none, 0, he, RS.nil _, hb⟩
  ·have e1 : kE c L ls = [] := if_neg (fun e => hA e.2)
   have e2 : uE c L ls = 1 := if_neg (fun e => hA e.2); rw [e1, e2]; refine (Xv v ls c ad L.length cu w h hLn hV _ rfl hA).mono fun e w' ⟨he, hb⟩ => ?_
   exact ⟨none, 0, he, RS.nil _, hb⟩
 ·have e1 : kE c L ls = [] := if_neg (fun e => hV e.1)
  have e2 : uE c L ls = 1 := if_neg (fun e => hV e.1); rw [e1, e2]; refine (Xu v ls c ad L.length cu w h hLn (by simpa using hV)).mono fun e w' ⟨he, hb⟩ => ?_
  exact ⟨none, 0, he, RS.nil _, hb⟩
theorem zaE (v : Value) (ls ks : List TA) (E : Int) (c : Rc) (u : Value) (L : List Px) (w : World) (h : RS v ls w) (tk : jc ls) (hn : ls.length ≤ maxLen) (hu : jF ka u L w) (hLn : L.length ≤ maxLen) (okL : V3 L) (e1 : kE c L ls = ks) (e2 : uE c L ls = E) : Calls Tryz.prog 77 #[.agg #[v], .agg (xg c u)] w fun e w' => ∃ a cp, e = .returned (.tuple #[.agg #[.slice a ks.length cp], .int .i64 E]) ∧ RS (.slice a ks.length cp) ks w' ∧ Below w.heap.size w w' := by
 subst e1 e2
 exact zaD v ls c u L w h tk hn hu hLn okL
end Go.Proofs.YtepelndbbhdofaaGreatDoor
/- Painting strokes: regions that draw their order within a round; an image that the call owns; the two closures. -/
namespace Go.Proofs.YtepelndbbhdofaaGreatDoor
open Go.RowKit Go.Shelf Pl
set_option linter.unusedVariables false
set_option linter.unusedSimpArgs false
set_option maxRecDepth 20000
theorem YV (K : Act → World → Prop) : zQ (ql K) = ql K := by
 funext e a w
 cases e <;> rfl
section
variable {P : Program} {n0 r : Nat}
/-- A region that draws its order, within a round: as wp_region_RL. -/
theorem Yn {id : Nat} {Q : Exit → Act → World → Prop} {a : Act} {w : World} {l : List Oper} (hd : we l = true) (n : Nat) (S : List (Nat × jo)) (hm : P.follows .mixedOrders = true) (hB : yZ .any l.toArray n = true) (hS0 : KK l.toArray (S.map (·.1)) = true)
  (h : vz P .any l.toArray (ql fun a w => Q .normal a w) (fun w' => ∃ u, w' = ov w u) (Jg S) (fun E a' => ∀ w', Below w.heap.size w w' → (∀ j, E j w') → wpList P l.toArray (zQ (ql fun a w => Q .normal a w)) (l.drop n) a' w') (l.take n) 0 (fun _ _ => True) a) : (Code.region id l.toArray true).wpIn (Fence.wide.inRound r) n0 P Q a w := by
 have hn : n ≤ l.length := by
  have hB' := hB; simp only [yZ, Bool.and_eq_true, decide_eq_true_eq] at hB'
  simpa using hB'.1.1.1
 have hlen : (l.take n).length = n := by simp; omega
 have h' := h fun j hj => by
  rw [hlen] at hj; simp [hj]
 rw [hlen, ← List.range_eq_range'] at h'
 have hS := Qy hS0
 simp only [yZ, Bool.and_eq_true, decide_eq_true_eq] at hB
 obtain ⟨⟨⟨hn, hR⟩, htl⟩, hseq⟩ := hB
 refine WQ hm hd ?_
 rw [← YV]
 have hdl : (l.drop n).length = l.toArray.size - n := by simp
 have := QF (P := P) (Q := ql fun a w => Q .normal a w) (md := .any) (C := fun w' => ∃ u, w' = ov w u) (S := Jg S) (g := (l.drop n).length) hR htl (fun w1 w2 ⟨u, hu⟩ hb => by
   subst hu; exact ⟨w2, zU ((qJ w u).trans (hb.mono (qJ w u).size))⟩) hS
  (L := fun E a' => ∀ w', Below w.heap.size w w' → (∀ j, E j w') → wpList P l.toArray (zQ (ql fun a w => Q .normal a w)) (l.drop n) a' w')
  (fun listed a' E w' zf hall hL ⟨u, hu⟩ hE => by
   have hT : listed = Array.replicate n true ++ Array.replicate (l.toArray.size - n) false := by
    apply Array.ext_getElem?
    intro j; rw [Array.getElem?_append, Array.size_replicate]; by_cases hjs : j < l.toArray.size
    ·have hjl : j < listed.size := by omega
     have h1 := hall j hjs; rw [Array.getD_eq_getD_getElem?, Array.getElem?_eq_getElem hjl, Option.getD_some] at h1; rw [Array.getElem?_eq_getElem hjl, h1]; by_cases hj : j < n
     ·rw [if_pos hj, Array.getElem?_replicate, if_pos hj, decide_eq_true hj]
     ·rw [if_neg hj, Array.getElem?_replicate, if_pos (by omega), decide_eq_false hj]
    ·rw [Array.getElem?_eq_none (by omega), if_neg (by omega), Array.getElem?_replicate, if_neg (by omega)]
   rw [hT]; refine wpAny_of_seq (l.drop n) n _ a' w' (fun j => by simp [List.getElem?_drop]) (by rw [hdl]; exact hseq) ?_
   subst hu; exact hL _ (qJ w u) hE)
  n (List.range n) (Array.replicate l.toArray.size false) a (fun _ _ => True) w.drew (by simp) List.pairwise_lt_range (by simp) (fun k => by
   rw [List.mem_range, decide_eq_true_eq]; refine ⟨fun hk => ⟨by omega, hk, getD_in (by rw [Array.size_replicate]; omega) (getD_replicate_false _ _)⟩, fun hk => hk.2.1⟩)
  (fun t hts _ => getD_in (by rw [Array.size_replicate]; exact hts) (getD_replicate_false _ _)) (fun j oj _ hl => (by rw [getD_replicate_false] at hl; cases hl))
  ⟨w.drew, zU ((Below.refl _ _).drew)⟩ (fun _ => trivial) (fun _ _ _ _ _ => trivial) h'
 rw [hdl, show n + (l.toArray.size - n) = l.toArray.size by omega] at this
 exact this
end
/-- Two results that are blocks. -/
theorem xj {t u : TypeId} {fn : Func} {p r : Tmp} (h : fn.results = #[.cell p t, .cell r u]) (tmps : Array Value) (w : World) (b c : Nat) (hp : tmps.getD p undef = .pointer (some ⟨b, 0, none⟩)) (hr : tmps.getD r undef = .pointer (some ⟨c, 0, none⟩)) {cs : Array Value} {v : Value} (ht : zF t w b cs) (hu : (Instr.loadAt u (.pointer (some ⟨c, 0, none⟩))).run Tryz.prog w = .ok v w) (hagg : ∀ w : World, (isAgg t).run Tryz.prog w = .ok true w) (zf : (Tryz.prog.info? t).map (·.size) = some cs.size) :
  (results fn tmps).run Tryz.prog w = .ok (.tuple #[.agg cs, v]) w := by
 have hl := zy ht hagg zf
 simp only [Instr.loadAt, Instr.sureAddr, Sem.run_bind, Sem.run_pure, Result.andThen_ok] at hl hu
 unfold results
 rw [h]
 have hp' : tmps[p]?.getD undef = .pointer (some ⟨b, 0, none⟩) := by simpa using hp
 have hr' : tmps[r]?.getD undef = .pointer (some ⟨c, 0, none⟩) := by simpa using hr
 simp [hp', hr', Instr.sureAddr, asAddr, hl, hu, Sem.run_bind, Sem.run_pure, Result.andThen_ok]
/-- Tiles beside what is no block of tiles. -/
theorem RS.own3 {v : Value} {ls : List TA} {W W' : World} {row : Option Nat} (h : RS v ls W) (hg : W.grownBy W' row) (hr : ∀ r, row = some r → (∃ o : Obj, W.heap[r]? = some o ∧ o.isCells = false) ∨ ∃ cs t, W.heap[r]? = some (.cells cs t (0, 0)) ∧ cs.size = 3) : RS v ls W' := by
 rcases h with h | ⟨g, o, c, e, hcap, sc⟩
 ·exact .inl h
 ·refine .inr ⟨g, o, c, e, hcap, fun hn => (sc hn).of_eq (hg.block g (sc hn).lt fun hg => ?_)⟩
  rcases hr g hg.symm with ⟨x, hx, hc⟩ | ⟨cs, t, hx, hs⟩
  ·have h0 := (sc hn).2 0 hn 0 (by omega)
   have hs : ∃ v, (xL (aT ls 0))[0]? = some v := ⟨_, Array.getElem?_eq_getElem (by rw [qc]; omega)⟩
   obtain ⟨v, hv⟩ := hs; rw [hv] at h0; have := Z7 h0 x hx; rw [hc] at this; cases this
  ·have h1 := (sc hn).2 0 hn 257 (by omega)
   rw [cell_of_row W g _ cs _ (0, 0) hx] at h1; have h2 : (xL (aT ls 0))[257]? ≠ none := by
    rw [Ne, Array.getElem?_eq_none_iff, qc]; omega
   rw [← h1, Ne, Array.getElem?_eq_none_iff] at h2; omega
set_option maxHeartbeats 2000000 in
/-- Image: its pixels are a row that the call made. -/
theorem Xp (v : Value) (ls : List TA) (c : Rc) (w : World) (h : RS v ls w) (tk : jc ls) (hv : qq ls = true) (hE : jr c = 0) : Calls Tryz.prog 76 #[.agg #[v], .agg (jV c)] w fun e w' => ∃ cb, w.heap.size ≤ cb ∧ e = .returned (.tuple #[.agg (xg c (.slice (some ⟨cb, 0, none⟩) (areaN c) (areaN c))), .int .i64 0]) ∧ ji ka w' cb (Qc c ls) ∧ Below w.heap.size w w' := by
 have B := Below.refl w.heap.size w
 have hn : ls.length ≤ maxLen := by have := (xF.1 hv).1; unfold maxLen; omega
 have HIM := Lib.hid (show zbm c (qX ls) = Qc c ls from by rw [yT hv]; exact zbn (yh hE) hv)
 obtain ⟨a', c', hT⟩ := K9 v ls w h tk hn
 have HR0 := Lib.hid (hT w (Below.refl _ _)).2
 have HT := Lib.hid hT
 clear hT
 obtain ⟨a, cp, rfl, hc⟩ := h.len
 have TK := Lib.hid (ky tk)
 have HP := Lib.hid (zbh ls)
 have hfl := ur ls
 have FT := Lib.hid (yh hE)
 obtain ⟨an1, an2⟩ := ZJ FT.out
 have AR : Hid (∀ w, Calls Tryz.prog 125 #[.agg #[.int .i64 c.x0, .int .i64 c.y0, .int .i64 c.x1, .int .i64 c.y1]] w fun e w' => e = .returned (.int .i64 (areaN c : Int)) ∧ Below w.heap.size w w') := Lib.hid fun w => by
  have := zaj c w FT.out.valid; rw [Z0 FT.out] at this; exact this
 have FE : Hid (∀ w, Calls Tryz.prog 124 #[.agg #[.int .i64 c.x0, .int .i64 c.y0, .int .i64 c.x1, .int .i64 c.y1]] w fun e w' => e = .returned (.int .i64 0) ∧ Below w.heap.size w w') := Lib.hid fun w => by
  have := zaJ c w; rw [hE] at this; exact this
 have eg := enters_of Tryz.func127 (by kernel_rfl) rfl
 clear h tk hE hv
 show Calls Tryz.prog 76 #[.agg #[.slice a ls.length cp], .agg #[.int .i64 c.x0, .int .i64 c.y0, .int .i64 c.x1, .int .i64 c.y1]] w _
 go_enter Tryz.func76, Tryz.ntmps76
 go_upto_region 4 with (first | (go_at_call 124; refine (FE.out _).mono ?_; rintro e wn ⟨rfl, za⟩; have zf := B.size; have zg := za.size; replace B := B.trans (za.mono B.size); (try replace r1 := r1.below za); (try replace r0 := r0.below za); (try replace m4 := m4.below za); (try replace m7 := m7.below za); (try replace row := row.below za)) | (refine zq (t := 38) rfl _ rfl _ _ _ rfl (xH r0) (by rfl) ?_; simp only [zn]) | (have _ := r0; refine zr (t := 117) rfl _ (xV _ _ rfl) (zV B ?_); clear B; intro b_m4 wn zb zd m4 za zf zk B; (try have zh := r1.lt); (try replace r1 := r1.below (za.mono zb)); (try have zh := r0.lt); (try replace r0 := r0.below (za.mono zb)); (try have zh := m4.lt); (try replace m4 := m4.below (za.mono zb)); (try have zh := m7.lt); (try replace m7 := m7.below (za.mono zb)); (try have zh := row.lt); (try replace row := row.below (za.mono zb)); simp only [zn]) | (have _ := r1; refine zt (t := 38) rfl _ rfl _ rfl (zV B ?_); clear B; intro b_r0 wn zb zd r0 za zf zk B; (try have zh := r1.lt); (try replace r1 := r1.below (za.mono zb)); (try have zh := r0.lt); (try replace r0 := r0.below (za.mono zb)); (try have zh := m4.lt); (try replace m4 := m4.below (za.mono zb)); (try have zh := m7.lt); (try replace m7 := m7.below (za.mono zb)); (try have zh := row.lt); (try replace row := row.below (za.mono zb)); simp only [zn]) | (refine zt (t := 64) rfl _ rfl _ rfl (zV B ?_); clear B; intro b_r1 wn zb zd r1 za zf zk B; (try have zh := r1.lt); (try replace r1 := r1.below (za.mono zb)); (try have zh := r0.lt); (try replace r0 := r0.below (za.mono zb)); (try have zh := m4.lt); (try replace m4 := m4.below (za.mono zb)); (try have zh := m7.lt); (try replace m7 := m7.below (za.mono zb)); (try have zh := row.lt); (try replace row := row.below (za.mono zb)); simp only [zn]) | fail)
 have q1 : w.heap.size ≤ b_r1 := by omega
 have q2 : b_r1 < b_r0 := by omega
 have q3 : b_r0 < b_m4 := by omega
 have q4 := m4.lt
 go_cut [7] from 14 to 18 (fun s wx => ∃ b_m7 b_row, s = .pointer (some ⟨b_m7, 0, none⟩) ∧ zF 117 wx b_m7 (xg c (.slice (some ⟨b_row, 0, none⟩) (areaN c) (areaN c))) ∧ ji ka wx b_row (List.replicate (areaN c) Px.zero) ∧ Below w.heap.size w wx ∧ b_m4 < b_m7 ∧ b_m4 < b_row ∧ b_m7 ≠ b_row ∧ zF 64 wx b_r1 #[.slice a ls.length cp] ∧ zF 38 wx b_r0 (jV c) ∧ zF 117 wx b_m4 (xg Rc.zero (.slice none 0 0)))
 case first =>
  try have r1B := r1
  try have r0B := r0
  try have m4B := m4
  try have m7B := m7
  try have rowB := row
  refine vh 6 #[false, false, false, false, false, false, false] (by kernel_rfl) (by kernel_rfl) ?_; intro wn za; have hX := za; have zf := B.size; have zg := za.size; replace B := B.trans (za.mono B.size); try replace r1 := r1.below za
  try replace r0 := r0.below za
  try replace m4 := m4.below za
  try replace m7 := m7.below za
  try replace row := row.below za
  simp only [List.length_cons, List.length_nil, Nat.reduceAdd]; refine qL 0 rfl (by kernel_rfl) ⟨_, zU hX⟩ ?_; intro K hK; try simp only [zN]
  (first | (refine zo (t := 38) rfl _ _ _ rfl (fun w hw => xH (zD r0B w hw)) (by rfl) ?_; simp only [zn]; go_big_quiet_on) | (go_big_quiet_op; go_big_quiet_on))
  simp only [zn]; refine qL 1 rfl (by kernel_rfl) ⟨_, zU hX⟩ ?_; intro K hK; try simp only [zN]
  (first | (refine zo (t := 38) rfl _ _ _ rfl (fun w hw => xH (zD r0B w hw)) (by rfl) ?_; simp only [zn]; go_big_quiet_on) | (go_big_quiet_op; go_big_quiet_on))
  simp only [zn]; refine xA 2 5 rfl rfl (by kernel_rfl) rfl rfl (fun K hK => ?_) (fun K hK => ?_)
  ·skip
   try simp only [zN]
   go_simp
   go_at_call 125
   refine (AR.out _).mono ?_; rintro e wn ⟨rfl, za⟩; have zf := B.size; have zg := za.size; have hsx := hX.size; replace B := B.trans (za.mono B.size); replace hX := hX.trans (za.mono hX.size); try replace r1 := r1.below za
   try replace r0 := r0.below za
   try replace m4 := m4.below za
   try replace m7 := m7.below za
   try replace row := row.below za
   refine hK _ _ ⟨fun _ => ⟨_, zU hX⟩, ?_⟩; clear hK K; try simp only [zN]
   simp only [zn]; refine xA 3 5 rfl rfl (by kernel_rfl) rfl rfl (fun K hK => ?_) (fun K hK => ?_)
   ·skip
    try simp only [zN]
    refine u0 (E := ka) _ _ rfl (areaN c) (by rfl) (by rfl) (by omega) (by omega) ?_; intro b_row wn zb zd ht za zg; have zf := B.size; have hsx := hX.size; replace B := B.trans (za.mono (by omega)); replace hX := hX.trans (za.mono (by omega)); try replace r1 := r1.below (za.mono zb)
    try replace r0 := r0.below (za.mono zb)
    try replace m4 := m4.below (za.mono zb)
    try replace m7 := m7.below (za.mono zb)
    try replace row := row.below (za.mono zb)
    have row := ht; clear ht; refine hK _ _ ⟨fun _ => ⟨_, zU hX⟩, ?_⟩; clear hK K; try simp only [zN]
    simp only [zn]; refine qL 4 rfl (by kernel_rfl) ⟨_, zU hX⟩ ?_; intro K hK; try simp only [zN]
    (first | (refine zo (t := 38) rfl _ _ _ rfl (fun w hw => xH (zD r0B w hw)) (by rfl) ?_; simp only [zn]; go_big_quiet_on) | (go_big_quiet_op; go_big_quiet_on))
    simp only [zn]; refine qk 5 rfl (by kernel_rfl) rfl (fun K hK => ?_); try simp only [zN]
    refine zR (t := 117) _ (xV _ _ rfl) ?_; intro b_m7 wn zb zd ht za zg; have zf := B.size; have hsx := hX.size; replace B := B.trans (za.mono (by omega)); replace hX := hX.trans (za.mono (by omega)); try replace r1 := r1.below (za.mono zb)
    try replace r0 := r0.below (za.mono zb)
    try replace m4 := m4.below (za.mono zb)
    try replace m7 := m7.below (za.mono zb)
    try replace row := row.below (za.mono zb)
    have m7 := ht; clear ht; refine hK _ _ ⟨fun _ => ⟨_, zU hX⟩, ?_⟩; clear hK K; try simp only [zN]
    simp only [zn]; refine je (by kernel_rfl) (by kernel_rfl) ?_; simp only [List.drop_succ_cons, List.drop_zero]; go_wp2_with (first | (refine zp (t := 117) rfl _ _ rfl _ rfl _ rfl m7 (by kernel_rfl) rfl (by simp [xg, Value.oneCell']) (qt B (by omega) ?_); clear m7 B; intro wn m7 ze zf zg B; (try replace r1 := r1.of_eq (ze.block _ r1.lt (by omega))); (try replace r0 := r0.of_eq (ze.block _ r0.lt (by omega))); (try replace m4 := m4.of_eq (ze.block _ m4.lt (by omega))); (try replace row := row.of_eq (ze.block _ row.lt (by omega))); simp only [zn]) | fail)
    refine zQ.normal ?_; go_wp2_with fail
    go_meet; exact ⟨b_m7, b_row, rfl, m7, row, B, by omega, by omega, by omega, r1, r0, m4⟩
   ·skip
    try simp only [zN]
    refine zR (t := 117) _ (xV _ _ rfl) ?_; intro b_m7 wn zb zd ht za zg; have zf := B.size; have hsx := hX.size; replace B := B.trans (za.mono (by omega)); replace hX := hX.trans (za.mono (by omega)); try replace r1 := r1.below (za.mono zb)
    try replace r0 := r0.below (za.mono zb)
    try replace m4 := m4.below (za.mono zb)
    try replace m7 := m7.below (za.mono zb)
    try replace row := row.below (za.mono zb)
    have m7 := ht; clear ht; refine hK _ _ ⟨fun _ => ⟨_, zU hX⟩, ?_⟩; clear hK K; try simp only [zN]
    simp only [zn]; refine qk 3 rfl (by kernel_rfl) rfl (fun K hK => ?_); try simp only [zN]
    refine u0 (E := ka) _ _ rfl (areaN c) (by rfl) (by rfl) (by omega) (by omega) ?_; intro b_row wn zb zd ht za zg; have zf := B.size; have hsx := hX.size; replace B := B.trans (za.mono (by omega)); replace hX := hX.trans (za.mono (by omega)); try replace r1 := r1.below (za.mono zb)
    try replace r0 := r0.below (za.mono zb)
    try replace m4 := m4.below (za.mono zb)
    try replace m7 := m7.below (za.mono zb)
    try replace row := row.below (za.mono zb)
    have row := ht; clear ht; refine hK _ _ ⟨fun _ => ⟨_, zU hX⟩, ?_⟩; clear hK K; try simp only [zN]
    simp only [zn]; refine qL 4 rfl (by kernel_rfl) ⟨_, zU hX⟩ ?_; intro K hK; try simp only [zN]
    (first | (refine zo (t := 38) rfl _ _ _ rfl (fun w hw => xH (zD r0B w hw)) (by rfl) ?_; simp only [zn]; go_big_quiet_on) | (go_big_quiet_op; go_big_quiet_on))
    simp only [zn]; refine je (by kernel_rfl) (by kernel_rfl) ?_; simp only [List.drop_succ_cons, List.drop_zero]; go_wp2_with (first | (refine zp (t := 117) rfl _ _ rfl _ rfl _ rfl m7 (by kernel_rfl) rfl (by simp [xg, Value.oneCell']) (qt B (by omega) ?_); clear m7 B; intro wn m7 ze zf zg B; (try replace r1 := r1.of_eq (ze.block _ r1.lt (by omega))); (try replace r0 := r0.of_eq (ze.block _ r0.lt (by omega))); (try replace m4 := m4.of_eq (ze.block _ m4.lt (by omega))); (try replace row := row.of_eq (ze.block _ row.lt (by omega))); simp only [zn]) | fail)
    refine zQ.normal ?_; go_wp2_with fail
    go_meet; exact ⟨b_m7, b_row, rfl, m7, row, B, by omega, by omega, by omega, r1, r0, m4⟩
  ·skip
   try simp only [zN]
   refine zR (t := 117) _ (xV _ _ rfl) ?_; intro b_m7 wn zb zd ht za zg; have zf := B.size; have hsx := hX.size; replace B := B.trans (za.mono (by omega)); replace hX := hX.trans (za.mono (by omega)); try replace r1 := r1.below (za.mono zb)
   try replace r0 := r0.below (za.mono zb)
   try replace m4 := m4.below (za.mono zb)
   try replace m7 := m7.below (za.mono zb)
   try replace row := row.below (za.mono zb)
   have m7 := ht; clear ht; refine hK _ _ ⟨fun _ => ⟨_, zU hX⟩, ?_⟩; clear hK K; try simp only [zN]
   simp only [zn]; refine qk 2 rfl (by kernel_rfl) rfl (fun K hK => ?_); try simp only [zN]
   go_simp
   go_at_call 125
   refine (AR.out _).mono ?_; rintro e wn ⟨rfl, za⟩; have zf := B.size; have zg := za.size; have hsx := hX.size; replace B := B.trans (za.mono B.size); replace hX := hX.trans (za.mono hX.size); try replace r1 := r1.below za
   try replace r0 := r0.below za
   try replace m4 := m4.below za
   try replace m7 := m7.below za
   try replace row := row.below za
   refine hK _ _ ⟨fun _ => ⟨_, zU hX⟩, ?_⟩; clear hK K; try simp only [zN]
   simp only [zn]; refine qk 3 rfl (by kernel_rfl) rfl (fun K hK => ?_); try simp only [zN]
   refine u0 (E := ka) _ _ rfl (areaN c) (by rfl) (by rfl) (by omega) (by omega) ?_; intro b_row wn zb zd ht za zg; have zf := B.size; have hsx := hX.size; replace B := B.trans (za.mono (by omega)); replace hX := hX.trans (za.mono (by omega)); try replace r1 := r1.below (za.mono zb)
   try replace r0 := r0.below (za.mono zb)
   try replace m4 := m4.below (za.mono zb)
   try replace m7 := m7.below (za.mono zb)
   try replace row := row.below (za.mono zb)
   have row := ht; clear ht; refine hK _ _ ⟨fun _ => ⟨_, zU hX⟩, ?_⟩; clear hK K; try simp only [zN]
   simp only [zn]; refine qL 4 rfl (by kernel_rfl) ⟨_, zU hX⟩ ?_; intro K hK; try simp only [zN]
   (first | (refine zo (t := 38) rfl _ _ _ rfl (fun w hw => xH (zD r0B w hw)) (by rfl) ?_; simp only [zn]; go_big_quiet_on) | (go_big_quiet_op; go_big_quiet_on))
   simp only [zn]; refine je (by kernel_rfl) (by kernel_rfl) ?_; simp only [List.drop_succ_cons, List.drop_zero]; go_wp2_with (first | (refine zp (t := 117) rfl _ _ rfl _ rfl _ rfl m7 (by kernel_rfl) rfl (by simp [xg, Value.oneCell']) (qt B (by omega) ?_); clear m7 B; intro wn m7 ze zf zg B; (try replace r1 := r1.of_eq (ze.block _ r1.lt (by omega))); (try replace r0 := r0.of_eq (ze.block _ r0.lt (by omega))); (try replace m4 := m4.of_eq (ze.block _ m4.lt (by omega))); (try replace row := row.of_eq (ze.block _ row.lt (by omega))); simp only [zn]) | fail)
   refine zQ.normal ?_; go_wp2_with fail
   go_meet; exact ⟨b_m7, b_row, rfl, m7, row, B, by omega, by omega, by omega, r1, r0, m4⟩
 case rest =>
  obtain ⟨b_m7, b_row, rfl, m7, row, B, p1, p2, p3, r1, r0, m4⟩ := hcut; have k0 : w.heap.size ≤ b_row := by omega
  have k1 : b_r0 ≠ b_row := by omega
  have k2 : b_m7 ≠ b_row := p3; have k3 : b_m4 ≠ b_row := by omega
  have k4 : b_m7 ≠ b_m4 := by omega
  go_wp2_with (first | (refine zp (t := 117) rfl _ _ rfl _ rfl _ rfl m4 (by kernel_rfl) rfl (by simp [xg, Value.oneCell']) (qt B (by omega) ?_); clear m4 B; intro wn m4 ze zf zg B; (try replace r1 := r1.of_eq (ze.block _ r1.lt (by omega))); (try replace r0 := r0.of_eq (ze.block _ r0.lt (by omega))); (try replace m7 := m7.of_eq (ze.block _ m7.lt (by omega))); (try replace row := row.of_eq (ze.block _ row.lt (by omega))); simp only [zn]) | (refine zq (t := 117) rfl _ rfl _ _ _ rfl (uL m7) (by rfl) ?_; simp only [zn]) | (go_at_call 126; have hr0 := r0.lt; have hr1 := m7.lt; have hr2 := row.lt; have hsp := KD HR0.out k0; have zf := B.size; refine (XA (kz c) (fun s W => zF 38 W b_r0 (jV c) ∧ zF 117 W b_m7 (xg c (.slice (some ⟨b_row, 0, none⟩) (areaN c) (areaN c))) ∧ ji ka W b_row s ∧ s.length = areaN c) b_row 127 #[.pointer (some ⟨b_r0, 0, none⟩), .pointer (some ⟨b_m7, 0, none⟩)] eg _ (qX ls) (List.replicate (areaN c) Px.zero) _ (HT.out _ B).2 TK.out (by omega) HP.out hr2 hsp ⟨r0, m7, row, by simp⟩ (fun s W W' hI hk => ⟨hI.1.of_eq (hk _ hr0), hI.2.1.of_eq (hk _ hr1), hI.2.2.1.of_eq (hk _ hr2), hI.2.2.2⟩) (fun s W x y p _ hI h1 h2 h3 h4 hp => (zay c FT.out s hI.2.2.2 x y p b_r0 b_m7 b_row W hI.1 hI.2.1 hI.2.2.1 k1 k2).mono fun e W' hh => ⟨hh.1, ⟨hh.2.1.1, hh.2.1.2.1, hh.2.1.2.2, (zbk c s x y p).trans hI.2.2.2⟩, hh.2.2⟩) (zdc c)).mono ?_; rintro e wn ⟨v1, rfl, _, hI, hcc⟩; have zg := hcc.size; replace m4 := m4.of_eq (hcc.block _ m4.lt k3); replace B := qN.below B hcc k0 zf; obtain ⟨r0, m7, row, hlen⟩ := hI) | (go_at_call 104; refine (HT.out _ B).1.mono ?_; rintro e wn ⟨rfl, za⟩; have zf := B.size; have zg := za.size; replace B := B.trans (za.mono B.size); (try replace r1 := r1.below za); (try replace r0 := r0.below za); (try replace m4 := m4.below za); (try replace m7 := m7.below za); (try replace row := row.below za)) | (refine zq (t := 64) rfl _ rfl _ _ _ rfl (zy r1 Tryz.isAgg64 (by kernel_rfl)) (by rfl) ?_; simp only [zn]) | fail)
  refine bodyPost_ret (zJ (t := 117) rfl _ _ (b_m4) rfl _ rfl m4 Tryz.isAgg117 (by kernel_rfl)) rfl ?_; refine ⟨_, k0, rfl, ?_, B⟩; rw [← HIM.out]; exact row
/-! ### The row, half painted -/
def kj (c : Rc) (F G : Int → Int → Px) (k : Nat) : List Px := (List.range (areaN c)).map fun j => if j < k then F (vx c j) (vy c j) else G (vx c j) (vy c j)
theorem zbs (c : Rc) (F G : Int → Int → Px) (k : Nat) : (kj c F G k).length = areaN c := by unfold kj; rw [List.length_map, List.length_range]
theorem Wv (c : Rc) (ls : List TA) (F : Int → Int → Px) : kj c F (fun x y => xJ ls x y) 0 = Qc c ls := by
 unfold kj Qc
 refine List.map_congr_left fun j _ => ?_
 rw [if_neg (by omega)]
theorem zbr (c : Rc) (F G : Int → Int → Px) : kj c F G (areaN c) = yV c F := by
 unfold kj yV
 refine List.map_congr_left fun j hj => ?_
 rw [if_pos (List.mem_range.1 hj)]
theorem zdf (c : Rc) (F G : Int → Int → Px) {k : Nat} (h : k < areaN c) : (kj c F G k)[k]? = some (G (vx c k) (vy c k)) := by
 unfold kj
 rw [List.getElem?_map, List.getElem?_range h]
 show some (if k < k then _ else _) = _
 rw [if_neg (by omega)]
theorem zbt (c : Rc) (F G : Int → Int → Px) {k : Nat} (h : k < areaN c) : (kj c F G k).set k (F (vx c k) (vy c k)) = kj c F G (k + 1) := by
 apply List.ext_getElem?
 intro j
 rw [List.getElem?_set]
 unfold kj
 by_cases e : k = j
 ·subst e
  rw [if_pos rfl, if_pos (by rw [List.length_map, List.length_range]; exact h), List.getElem?_map, List.getElem?_range h]
  show _ = some (if k < k + 1 then _ else _)
  rw [if_pos (by omega)]
 ·rw [if_neg e]
  by_cases hj : j < areaN c
  ·rw [List.getElem?_map, List.getElem?_map, List.getElem?_range hj]
   show some (if j < k then _ else _) = some (if j < k + 1 then _ else _)
   by_cases hk : j < k
   ·rw [if_pos hk, if_pos (by omega)]
   ·rw [if_neg hk, if_neg (by omega)]
  ·rw [List.getElem?_eq_none (by rw [List.length_map, List.length_range]; omega), List.getElem?_eq_none (by rw [List.length_map, List.length_range]; omega)]
theorem Wu (c : Rc) (F G : Int → Int → Px) {k : Nat} (h : F (vx c k) (vy c k) = G (vx c k) (vy c k)) : kj c F G (k + 1) = kj c F G k := by
 unfold kj
 refine List.map_congr_left fun j _ => ?_
 by_cases hk : j < k
 ·rw [if_pos hk, if_pos (by omega)]
 ·rw [if_neg hk]
  by_cases hj : j < k + 1
  ·rw [if_pos hj, show j = k by omega, h]
  ·rw [if_neg hj]
/-- The pixel at a row and a column. -/
theorem zbv {c : Rc} (hf : j0 c) (F G : Int → Int → Px) {i j : Nat} (hj : (j : Int) < c.x1 - c.x0) (hi : (i : Int) < c.y1 - c.y0) : i * widN c + j < areaN c ∧ (kj c F G (i * widN c + j))[i * widN c + j]? = some (G (c.x0 + j) (c.y0 + i)) ∧ (kj c F G (i * widN c + j)).set (i * widN c + j) (F (c.x0 + j) (c.y0 + i)) = kj c F G (i * widN c + (j + 1)) ∧ (F (c.x0 + j) (c.y0 + i) = G (c.x0 + j) (c.y0 + i) → kj c F G (i * widN c + (j + 1)) = kj c F G (i * widN c + j)) := by
 obtain ⟨k, e, hk, ex, ey⟩ := zbV hf hj hi
 have hw : c.x1 - c.x0 = (widN c : Int) := by unfold widN; have := hf.h1; omega
 have ek : k = i * widN c + j := by
  rw [hw] at e; omega
 subst ek
 have h1 := zdf c F G hk
 have h2 := zbt c F G hk
 have h3 := Wu c F G (k := i * widN c + j)
 rw [ex, ey] at h1 h2 h3
 rw [← Nat.add_assoc]
 exact ⟨hk, h1, h2, h3⟩
/-! ### The two closures -/
def chP (s : qv) (p : Px) (n : Int) : Px := if s.era = true then Zh p (255 - n) else uy p s.col 0 n
theorem Vs (s : qv) (n : Int) (p : Px) : JN s n p = if 0 < n then chP s p n else p := rfl
theorem wJ (w : World) (o : Oper) (ho : o.op = .alloc 28) (ev : Operand → Value) : (execOp ev o).run Tryz.prog w = .ok (.value (.pointer (some ⟨w.heap.size, 0, none⟩))) (w.alloc (.cells #[.int .u8 0, .int .u8 0, .int .u8 0, .int .u8 0] 28)) := by
 obtain ⟨d, p, t, ps, af, gd⟩ := o
 simp only at ho
 subst ho
 kernel_rfl
theorem zcy (q r : Px) (c : Int) (w : World) (hq : q.ok) (e : Zh q c = r) : Calls Tryz.prog 75 #[.agg (ka.enc q), .int .i64 c] w fun e w' => e = .returned (.agg (ka.enc r)) ∧ Below w.heap.size w w' := e ▸ zd8 q c w hq
theorem zcA (q p r : Px) (m c : Int) (w : World) (hq : q.ok) (hp : p.ok) (e : uy q p m c = r) : Calls Tryz.prog 73 #[.agg (ka.enc q), .agg (ka.enc p), .int .i64 m, .int .i64 c] w fun e w' => e = .returned (.agg (ka.enc r)) ∧ Below w.heap.size w w' := e ▸ zea q p m c w hq hp
theorem zaz (v : Value) (s : qv) (p q : Px) (n : Int) (b : Nat) (w : World) (s2 : zF 30 w b (qw v s)) (hp : p.ok) (hc : s.col.ok) (e : uy p s.col 0 n = q) : Calls Tryz.prog 72 #[.agg (ka.enc p), .int .i64 n, .pointer (some ⟨b, 0, none⟩)] w fun e w' => e = .returned (.agg (ka.enc q)) ∧ Below w.heap.size w w' := by
 have B := Below.refl w.heap.size w
 have HP := Lib.hid hp
 have HC := Lib.hid hc
 have HE := Lib.hid e
 clear hp hc e
 go_enter Tryz.func72, Tryz.ntmps72
 go_upto_region 0 with fail
 refine wp_region_lit ?_
 try simp only [zN]
 (refine zt (t := 28) rfl _ rfl _ rfl (zV B ?_); clear B; intro b_r3 wn zb zd r3 za zf zk B; (try have zh := s2.lt); (try replace s2 := s2.below (za.mono zb)); simp only [zn])
 (refine zr (t := 28) rfl _ (wJ _ _ rfl) (zV B ?_); clear B; intro b_r5 wn zb zd r5 za zf zk B; (try have zh := r3.lt); (try replace r3 := r3.below (za.mono zb)); (try have zh := s2.lt); (try replace s2 := s2.below (za.mono zb)); simp only [zn])
 refine wpList_nil ?_
 have k1 : b_r3 < b_r5 := by have := r3.lt; omega
 replace r3 : zF 28 _ b_r3 (ka.enc p) := r3
 go_upto_region 1 with fail
 refine wp_region_lit ?_
 try simp only [zN]
 refine jG 4 ?_
 repeat (first | go_big_quiet_skip | (go_big_quiet_want; first | ((first | refine zo (t := 28) rfl _ _ _ rfl (fun w hw => jS (zD s2 w hw)) (by rfl) ?_ | refine qB ?_ | refine qC ?_); simp only [zn]; go_big_quiet_on) | (go_big_quiet_op; go_big_quiet_on)))
 refine wpQuiet_nil ?_
 refine qE (enters_of Tryz.func73 (by kernel_rfl) rfl) (c := zcA p s.col q 0 n _ HP.out HC.out HE.out) (h := ?_)
 rintro e wn ⟨rfl, za⟩
 have zf := B.size
 have zg := za.size
 replace B := B.trans (za.mono B.size)
 (try replace r5 := r5.below za)
 refine ⟨_, rfl, ?_⟩
 simp only [zn]
 (refine zp (t := 28) rfl _ _ rfl _ rfl _ rfl r5 (by kernel_rfl) rfl (by simp [ka, pxA, Value.oneCell']) (qt B (by omega) ?_); clear r5 B; intro wn r5 ze zf zg B; simp only [zn])
 refine wpList_nil ?_
 first | (refine bodyPost_ret (zv (t := 28) rfl _ _ (b_r5) rfl r5 Tryz.isAgg28 (by kernel_rfl)) rfl ?_) | (go_step; refine bodyPost_ret (zv (t := 28) rfl _ _ (b_r5) rfl r5 Tryz.isAgg28 (by kernel_rfl)) rfl ?_) | (go_step; go_step; refine bodyPost_ret (zv (t := 28) rfl _ _ (b_r5) rfl r5 Tryz.isAgg28 (by kernel_rfl)) rfl ?_) | (go_step; go_step; go_step; refine bodyPost_ret (zv (t := 28) rfl _ _ (b_r5) rfl r5 Tryz.isAgg28 (by kernel_rfl)) rfl ?_) | (go_step; go_step; go_step; go_step; refine bodyPost_ret (zv (t := 28) rfl _ _ (b_r5) rfl r5 Tryz.isAgg28 (by kernel_rfl)) rfl ?_) | (go_step; go_step; go_step; go_step; go_step; refine bodyPost_ret (zv (t := 28) rfl _ _ (b_r5) rfl r5 Tryz.isAgg28 (by kernel_rfl)) rfl ?_)
 exact ⟨rfl, B⟩
theorem zaA (p q : Px) (n : Int) (w : World) (hn : 0 ≤ n ∧ n ≤ 255) (hp : p.ok) (e : Zh p (255 - n) = q) : Calls Tryz.prog 74 #[.agg (ka.enc p), .int .i64 n] w fun e w' => e = .returned (.agg (ka.enc q)) ∧ Below w.heap.size w w' := by
 have B := Below.refl w.heap.size w
 have HP := Lib.hid hp
 have HE := Lib.hid e
 clear hp e
 go_enter Tryz.func74, Tryz.ntmps74
 go_upto_region 0 with fail
 refine wp_region_lit ?_
 try simp only [zN]
 (refine zt (t := 28) rfl _ rfl _ rfl (zV B ?_); clear B; intro b_r2 wn zb zd r2 za zf zk B; simp only [zn])
 (refine zr (t := 28) rfl _ (wJ _ _ rfl) (zV B ?_); clear B; intro b_r4 wn zb zd r4 za zf zk B; (try have zh := r2.lt); (try replace r2 := r2.below (za.mono zb)); simp only [zn])
 refine wpList_nil ?_
 have k1 : b_r2 < b_r4 := by have := r2.lt; omega
 replace r2 : zF 28 _ b_r2 (ka.enc p) := r2
 go_upto_region 1 with fail
 refine wp_region_lit ?_
 try simp only [zN]
 refine zx 3 ?_
 refine qE (enters_of Tryz.func75 (by kernel_rfl) rfl) (c := zcy p q (255 - n) _ HP.out HE.out) (h := ?_)
 rintro e wn ⟨rfl, za⟩
 have zf := B.size
 have zg := za.size
 replace B := B.trans (za.mono B.size)
 (try replace r4 := r4.below za)
 refine ⟨_, rfl, ?_⟩
 simp only [zn]
 (refine zp (t := 28) rfl _ _ rfl _ rfl _ rfl r4 (by kernel_rfl) rfl (by simp [ka, pxA, Value.oneCell']) (qt B (by omega) ?_); clear r4 B; intro wn r4 ze zf zg B; simp only [zn])
 refine wpList_nil ?_
 first | (refine bodyPost_ret (zv (t := 28) rfl _ _ (b_r4) rfl r4 Tryz.isAgg28 (by kernel_rfl)) rfl ?_) | (go_step; refine bodyPost_ret (zv (t := 28) rfl _ _ (b_r4) rfl r4 Tryz.isAgg28 (by kernel_rfl)) rfl ?_) | (go_step; go_step; refine bodyPost_ret (zv (t := 28) rfl _ _ (b_r4) rfl r4 Tryz.isAgg28 (by kernel_rfl)) rfl ?_) | (go_step; go_step; go_step; refine bodyPost_ret (zv (t := 28) rfl _ _ (b_r4) rfl r4 Tryz.isAgg28 (by kernel_rfl)) rfl ?_) | (go_step; go_step; go_step; go_step; refine bodyPost_ret (zv (t := 28) rfl _ _ (b_r4) rfl r4 Tryz.isAgg28 (by kernel_rfl)) rfl ?_) | (go_step; go_step; go_step; go_step; go_step; refine bodyPost_ret (zv (t := 28) rfl _ _ (b_r4) rfl r4 Tryz.isAgg28 (by kernel_rfl)) rfl ?_)
 exact ⟨rfl, B⟩
end Go.Proofs.YtepelndbbhdofaaGreatDoor
/- Contract of Paint of package stroke. -/
namespace Go.Proofs.YtepelndbbhdofaaGreatDoor
open Go.RowKit Go.Shelf Pl
attribute [local go_sem] Oper.semAt_some
set_option linter.unusedVariables false
set_option linter.unusedSimpArgs false
set_option maxRecDepth 20000
section
variable {F : Fence} {n : Nat} {P : Program}
/-- As rangeFunc_O, where the body may return. -/
theorem JX {α : Type} {g : Operand} {ps : Array Tmp} {assign body : Code} {Q : Exit → Act → World → Prop} {a : Act} {w : World}
  (hro : F.round = none) (h1 : 1 ≤ n) {gf : Nat} {lb : Array Value} (hg : a.eval g = .func (.func gf) #[] lb) (hFg : F.fn gf) (eg : ∀ args w, (callFunc gf args).run P w = .ok (.enter gf args) w)
  {encs : α → Array Value} {Kp : World → World → Prop} {S Sp : List α → Prop} {N : Nat} {w0 : World} (hseq : uU F (n - 1) P gf lb encs Kp S Sp N w0)
  (hKt : ∀ {A B C : World}, Kp A B → Kp B C → Kp A C) (hKb : ∀ (W : World) (l : Nat) (o o' : Obj), w.heap.size ≤ l → W.heap[l]? = some o → o.isCells = false → o.isWalk = false → Kp W (W.putObj l o'))
  (hKg : ∀ (A B : World), Below A.heap.size A B → Kp A B) (hb0 : Below w0.heap.size w0 w) (hps : ∀ x, (encs x).size = ps.size)
  (I Ix : List α → World → Prop) (hI0 : zai w.heap.size I) (hX0 : zai w.heap.size Ix) (h0 : I [] w) (As : α → Act → World → Prop) (hAs : ∀ x, OwnFrom w.heap.size (As x))
  (hassign : ∀ (l : Nat) (pre : List α) (x : α) (W : World) (K : Act → World → Prop), I pre W → w.heap.size + 2 < W.heap.size → (∀ a' W', Below W.heap.size W W' → As x a' W' → K a' W') →
   assign.wpIn (F.inRound l) (n - 1 - 1) P (Exit.then K (fun _ _ _ => False)) { tmps := (ps.zip (encs x)).foldl (fun t (p, v) => t.setIfInBounds p v) a.tmps, defers := [] } W)
  (hbody : ∀ (l : Nat) (pre : List α) (x : α) (W : World) (a' : Act), I pre W → As x a' W → pre.length < N → body.wpIn (F.inRound l) (n - 1 - 1) P (ownPostK Kp I (fun c xs W => c = .ret ∧ Ix xs W) (pre ++ [x]) W) a' W)
  (hdone : ∀ (D : Nat) (xs : List α) (W : World), w.heap.size ≤ D → S xs → I xs W → W.heap[D]? = some (.deferred (some [])) → Q .normal { a with defers := { target := .collected D, args := #[] } :: a.defers } W)
  (hstop : ∀ (D : Nat) (pre : List α) (W : World), w.heap.size ≤ D → Sp pre → Ix pre W → W.heap[D]? = some (.deferred (some [])) → Q .ret { a with defers := { target := .collected D, args := #[] } :: a.defers } W) :
  (Code.rangeFunc g ps assign body).wpIn F n P Q a w := by
 have hI : OwnFrom w.heap.size I := hI0.from
 have hX : OwnFrom w.heap.size Ix := hX0.from
 refine wpIn_rangeFunc fun fn hfn => ?_
 rw [hro]
 obtain ⟨rc, hrc⟩ : ∃ rc : LoopState → Option Code → Loop, rc = fun st pe => { state := st, pending := pe, fn, tmps := a.tmps, params := ps, assign, body, defers := w.heap.size } := ⟨_, rfl⟩
 obtain ⟨W1, hW1⟩ : ∃ W1, (w.alloc (.deferred (some []))).alloc (.loop (rc .ready none)) = W1 := ⟨_, rfl⟩
 have blkL : W1.heap[w.heap.size + 1]? = some (.loop (rc .ready none)) := by
  have := World.alloc_heap_new (w.alloc (.deferred (some []))) (.loop (rc .ready none)); rw [← hW1]
  rwa [World.size_alloc] at this
 have blkD : W1.heap[w.heap.size]? = some (.deferred (some [])) := by
  rw [← hW1]; exact (Below.heap_alloc _ _ _ (by simp)).trans (World.alloc_heap_new w _)
 have grown : Below w0.heap.size w0 W1 := by
  rw [← hW1]; exact hb0.trans ((((Below.refl _ w).alloc (Nat.le_refl _) _).alloc (by simp) _).mono hb0.size)
 have Qz : I [] W1 := by rw [← hW1]; exact hI.alloc _ (hI.alloc _ h0)
 refine ⟨w.heap.size + 1, [{ target := .collected w.heap.size, args := #[] }], W1, { target := .fn (.func gf) lb, args := #[.func (.yield (w.heap.size + 1)) #[] #[]] }, W1, gf,
  #[.func (.yield (w.heap.size + 1)) #[] #[]] ++ lb, W1, ?_, ?_, ?_, ?_, fun _ => h1, ?_⟩
 ·rw [← hW1, hrc]; exact run_enterLoop_outer _ _ _ _ _
 ·simp only [resolve, hg]
  simp [go_sem]
 ·intro f' hf'
  simp [Target.leads] at hf'
  subst hf'; exact hFg
 ·simp [invoke, go_sem, eg]
 have hszW1 : W1.heap.size = w.heap.size + 2 := by rw [← hW1]; simp
 have book : ∀ (A B : World) (row : Option Nat) (c : Loop), A.grownBy B row → (∀ r, row = some r → XD W1.heap.size A r) → A.heap[w.heap.size + 1]? = some (.loop c) → A.heap[w.heap.size]? = some (.deferred (some [])) → B.heap[w.heap.size + 1]? = some (.loop c) ∧ B.heap[w.heap.size]? = some (.deferred (some [])) := fun A B row c hg' hr h1 h2 =>
  ⟨(hg'.block _ (Array.getElem?_eq_some_iff.1 h1).1 (fun e => by have := (hr _ e.symm).1; omega)).trans h1, (hg'.block _ (Array.getElem?_eq_some_iff.1 h2).1 (fun e => by have := (hr _ e.symm).1; omega)).trans h2⟩
 have turn : ∀ (A : World) (row : Option Nat), (∀ r, row = some r → XD W1.heap.size A r) → ∀ r, row = some r → w.heap.size ≤ r ∧ ((∃ o : Obj, A.heap[r]? = some o ∧ o.isCells = false) ∨ XD (w.heap.size + 2) A r) := fun A row hr r e => ⟨by have := (hr r e).1; omega, .inr (by have := hr r e; rwa [hszW1] at this)⟩
 refine (hseq (w.heap.size + 1)
  (fun pre W => I pre W ∧ W.heap[w.heap.size + 1]? = some (.loop (rc .ready none)) ∧ W.heap[w.heap.size]? = some (.deferred (some [])))
  (fun pre W => Ix pre W ∧ W.heap[w.heap.size + 1]? = some (.loop (rc .done (some .ret))) ∧ W.heap[w.heap.size]? = some (.deferred (some []))) W1 grown
  (fun s A B row hs hg' hr => ⟨hI0 s A B row hs.1 hg' (turn A row hr), book A B row _ hg' hr hs.2.1 hs.2.2⟩)
  (fun s A B row hs hg' hr => ⟨hX0 s A B row hs.1 hg' (turn A row hr), book A B row _ hg' hr hs.2.1 hs.2.2⟩) ?_ ⟨Qz, blkL, blkD⟩).mono ?_
 ·rintro pre x W ⟨hi, hl, hk⟩ hlen hbig
  have hy := run_yield (P := P) (args := encs x) hl (by rw [hrc]; exact hps x)
  rw [hrc] at hy; refine ⟨fn, _, assign, body, hy, roundIn_of_wpIn hfn (hassign _ pre x W _ hi (by rw [hszW1] at hbig; exact hbig) fun a' V hb ha => ?_)⟩
  have hlV : V.heap[w.heap.size + 1]? = some (.loop (rc .ready none)) := (hb.block _ (Array.getElem?_eq_some_iff.1 hl).1).trans hl; have hkV : V.heap[w.heap.size]? = some (.deferred (some [])) := (hb.block _ (Array.getElem?_eq_some_iff.1 hk).1).trans hk; have hiV : I pre V := hI pre W V none hi (xf hb) (fun r e => by cases e); refine ⟨_, run_beginRound hlV (by rw [hrc]), ?_⟩; obtain ⟨V1, hV1⟩ : ∃ V1, V.putObj (w.heap.size + 1) (.loop { rc .ready none with state := .busy }) = V1 := ⟨_, rfl⟩; have hl1 : V1.heap[w.heap.size + 1]? = some (.loop { rc .ready none with state := .busy }) := by rw [← hV1]; exact World.putObj_heap_same (Array.getElem?_eq_some_iff.1 hlV).1
  have hk1 : V1.heap[w.heap.size]? = some (.deferred (some [])) := by rw [← hV1]; exact (World.putObj_heap_other (by omega)).trans hkV
  have hKp1 : Kp W V1 := hKt (hKg _ _ hb) (by rw [← hV1]; exact hKb _ _ _ _ (by omega) hlV rfl rfl)
  have hi1 : I pre V1 := by rw [← hV1]; exact hI.putObj _ hiV (by omega) hlV rfl
  have ha1 : As x a' V1 := by rw [← hV1]; exact (hAs x).putObj _ ha (by omega) hlV rfl
  rw [hV1]; refine wpIn_mono (hbody _ pre x V1 a' hi1 ha1 hlen) ?_; rintro e a3 W3 hp; cases e with
  | normal =>
   obtain ⟨ko, kp, hi3⟩ := hp; have hl3 := ko.same _ _ hl1 rfl; have hk3 := ko.same _ _ hk1 rfl; have he := run_endRound (P := P) none hl3; rw [hrc] at he; refine ⟨_, _, he, .inl ⟨rfl, ⟨hI.putObj _ hi3 (by omega) hl3 rfl, ?_, (World.putObj_heap_other (by omega)).trans hk3⟩, hKt (hKt hKp1 kp) (hKb _ _ _ _ (by omega) hl3 rfl rfl)⟩⟩; rw [World.putObj_heap_same (Array.getElem?_eq_some_iff.1 hl3).1, hrc]
   rfl
  | ret =>
   obtain ⟨ko, _, hi3⟩ := hp; have hl3 := ko.same _ _ hl1 rfl; have hk3 := ko.same _ _ hk1 rfl; have he := run_endRound (P := P) (some .ret) hl3; rw [hrc] at he; refine ⟨_, _, he, .inr ⟨rfl, hX.putObj _ hi3 (by omega) hl3 rfl, ?_, (World.putObj_heap_other (by omega)).trans hk3⟩⟩; rw [World.putObj_heap_same (Array.getElem?_eq_some_iff.1 hl3).1, hrc]
   rfl
  | exit id => cases hp.2.1
  | goto t => cases hp.2.1
  | panic ch => exact hp.elim
  | outgrown => exact hp.elim
 ·rintro e W2 ⟨⟨v, rfl⟩, ⟨xs, hS, hi, hl, hk⟩ | ⟨pre, hSp, hi, hl, hk⟩⟩
  ·have he := run_endLoop (P := P) hl (by rw [hrc]; simp)
   rw [hrc] at he; exact ⟨none, _, he, hdone _ xs _ (Nat.le_refl _) hS (hI.putObj _ hi (by omega) hl rfl) ((World.putObj_heap_other (by omega)).trans hk)⟩
  ·have he := run_endLoop (P := P) hl (by rw [hrc]; simp)
   rw [hrc] at he; exact ⟨some .ret, _, he, wpIn_ret (hstop _ pre _ (Nat.le_refl _) hSp (hX.putObj _ hi (by omega) hl rfl) ((World.putObj_heap_other (by omega)).trans hk))⟩
end
/-! ### Blocks of an error, of a function -/
theorem uJ (w : World) (o : Oper) (ho : o.op = .alloc 53) (ev : Operand → Value) : (execOp ev o).run Tryz.prog w = .ok (.value (.pointer (some ⟨w.heap.size, 0, none⟩))) (w.alloc (.cells #[.int .i64 0] 53)) := by
 obtain ⟨d, p, t, ps, af, gd⟩ := o
 simp only at ho
 subst ho
 kernel_rfl
theorem J1 (w : World) (o : Oper) (ho : o.op = .alloc 114) (ev : Operand → Value) : (execOp ev o).run Tryz.prog w = .ok (.value (.pointer (some ⟨w.heap.size, 0, none⟩))) (w.alloc (.cells #[.nilFunc] 114)) := by
 obtain ⟨d, p, t, ps, af, gd⟩ := o
 simp only at ho
 subst ho
 kernel_rfl
theorem jP {w : World} {b : Nat} {z : Int} (h : zF 53 w b #[.int .i64 z]) : (Instr.loadAt 53 (.pointer (some ⟨b, 0, none⟩))).run Tryz.prog w = .ok (.int .i64 z) w := by
 have c0 := h.cell 0 rfl
 simp [go_sem, c0]
theorem Yv {w : World} {b : Nat} {f : Fn} {x y : Array Value} (h : zF 114 w b #[.func f x y]) : (Instr.loadAt 114 (.pointer (some ⟨b, 0, none⟩))).run Tryz.prog w = .ok (.func f x y) w := by
 have c0 := h.cell 0 rfl
 simp [go_sem, c0]
theorem vU {ops : Array Oper} {rest : List Oper} {o : Oper} {a : Act} {w : World} {Q : Exit → Act → World → Prop} (hg : o.guard = none) (x y : Operand) (ho : o.op = .store 53 x y) (b : Nat) (hx : a.eval x = .pointer (some ⟨b, 0, none⟩)) (z : Int) (hy : a.eval y = .int .i64 z) {v : Value} (ht : zF 53 w b #[v])
  (h : ∀ w', zF 53 w' b #[.int .i64 z] → qN b w w' → w'.heap.size = w.heap.size → wpList Tryz.prog ops Q rest (a.put o.dst undef) w') : wpList Tryz.prog ops Q (o :: rest) a w := by
 have c0 := ht.cell 0 rfl
 have f0 := ht.frozen 0
 refine qe hg x y ho (w.setCell ⟨b, 0, none⟩ (.int .i64 z)) ?_ (h _ ?_ ((qN.refl b w).setCell _) (by simp only [World.size_setCell]))
 ·rw [hx, hy]
  simp [go_sem, c0, f0]
 ·exact heap_setCell_same w b 0 #[v] _ _ ht
theorem Zy {ops : Array Oper} {rest : List Oper} {o : Oper} {a : Act} {w : World} {Q : Exit → Act → World → Prop} (hg : o.guard = none) (x y : Operand) (ho : o.op = .store 114 x y) (b : Nat) (hx : a.eval x = .pointer (some ⟨b, 0, none⟩)) (f : Fn) (p q : Array Value) (hy : a.eval y = .func f p q) {v : Value} (ht : zF 114 w b #[v])
  (h : ∀ w', zF 114 w' b #[.func f p q] → qN b w w' → w'.heap.size = w.heap.size → wpList Tryz.prog ops Q rest (a.put o.dst undef) w') : wpList Tryz.prog ops Q (o :: rest) a w := by
 have c0 := ht.cell 0 rfl
 have f0 := ht.frozen 0
 refine qe hg x y ho (w.setCell ⟨b, 0, none⟩ (.func f p q)) ?_ (h _ ?_ ((qN.refl b w).setCell _) (by simp only [World.size_setCell]))
 ·rw [hx, hy]
  simp [go_sem, c0, f0]
 ·exact heap_setCell_same w b 0 #[v] _ _ ht
/-- An error stays. -/
theorem Wt (s : qv) (k : Nat) (ls : List TA) {E : Int} (h : (xK s ((yU (jg s) k).map fun i => jK s i.val) ls).2 = E) (hE : E ≠ 0) : xK s (jY s) ls = ([], E) := by
 have e1 : jY s = ((yU (jg s) k).map fun i => jK s i.val) ++ ((List.finRange (jg s)).drop k).map fun i => jK s i.val := by
  rw [← Z9, ← List.map_append]; unfold yU; rw [List.take_append_drop]
 have e2 : xK s (jY s) ls = xK s ((yU (jg s) k).map fun i => jK s i.val) ls := by
  rw [e1]; unfold xK at *; rw [List.foldl_append]; exact JO s _ (by rw [h]; exact hE)
 rw [e2]
 exact Prod.ext (Wr s _ ls (by rw [h]; exact hE)) h
set_option maxHeartbeats 16000000 in
theorem YX (v vs : Value) (s : qv) (ls : List TA) (w : World) (lm : xz w) (h : RS v ls w) (tk : jc ls) (hn : ls.length ≤ maxLen) (rs : jF qD vs s.pts w) (hv : qM s = true) (hcol : s.col.ok) : Calls Tryz.prog 30 #[.agg #[v], .agg (qw vs s)] w fun e w' => ∃ a cp, e = .returned (.tuple #[.agg #[.slice a (xh s ls).1.length cp], .int .i64 (xh s ls).2]) ∧ RS (.slice a (xh s ls).1.length cp) (xh s ls).1 w' ∧ Below w.heap.size w w' := by
 have B := Below.refl w.heap.size w
 have HV0 := Lib.hid hv
 have HVS := Lib.hid ((jj s).1 hv)
 have HCOL := Lib.hid hcol
 have HFIN := Lib.hid (show xh s ls = xK s (jY s) (qX ls) from if_pos hv)
 have hl1 := HVS.out.l1
 have hl2 := HVS.out.l2
 obtain ⟨ad, cd, rfl, hcd⟩ := rs.len
 obtain ⟨g, o, rfl, pc⟩ := rs.at (by omega)
 obtain ⟨a, c, rfl, hc⟩ := h.len
 have TK := Lib.hid tk
 have rs1 := h
 have hg0 := pc.lt
 have hlm0 := lm.lt
 clear hv hcol h tk
 refine (callsIn_wide (n := 3)).1 ?_
 refine callsIn_of_wp_marks Tryz.func30 rfl trivial ?_ rfl
 simp only [Tryz.ntmps30, List.size_toArray, List.length_cons, List.length_nil, Nat.reduceAdd, Nat.reduceSub, Array.replicate_succ, Array.replicate_zero, List.push_toArray, List.append_toArray, List.nil_append, List.cons_append]
 refine wpIn_wide.2 ?_
 go_upto_region 0 with fail
 refine wp_region_lit ?_
 (refine zt (t := 64) rfl _ rfl _ rfl (zV B ?_); clear B; intro b_r2 wn zb zd r2 za zf zk B; (try have zh := lm.lt); (try replace lm := lm.below (za.mono zb)); (try have zh := rs1.lt); (try replace rs1 := rs1.below (za.mono zb)); (try have zh := pc.lt); (try replace pc := pc.below (za.mono zb)); (try have zh := rs.lt); (try replace rs := rs.below (za.mono zb)); simp only [zn])
 (refine zt (t := 30) rfl _ rfl _ rfl (zV B ?_); clear B; intro b_r3 wn zb zd r3 za zf zk B; (try have zh := r2.lt); (try replace r2 := r2.below (za.mono zb)); (try have zh := lm.lt); (try replace lm := lm.below (za.mono zb)); (try have zh := rs1.lt); (try replace rs1 := rs1.below (za.mono zb)); (try have zh := pc.lt); (try replace pc := pc.below (za.mono zb)); (try have zh := rs.lt); (try replace rs := rs.below (za.mono zb)); simp only [zn])
 (refine zr (t := 64) rfl _ (jp _ _ rfl) (zV B ?_); clear B; intro b_r4 wn zb zd r4 za zf zk B; (try have zh := r2.lt); (try replace r2 := r2.below (za.mono zb)); (try have zh := r3.lt); (try replace r3 := r3.below (za.mono zb)); (try have zh := lm.lt); (try replace lm := lm.below (za.mono zb)); (try have zh := rs1.lt); (try replace rs1 := rs1.below (za.mono zb)); (try have zh := pc.lt); (try replace pc := pc.below (za.mono zb)); (try have zh := rs.lt); (try replace rs := rs.below (za.mono zb)); simp only [zn])
 (refine zr (t := 53) rfl _ (uJ _ _ rfl) (zV B ?_); clear B; intro b_e5 wn zb zd e5 za zf zk B; (try have zh := r2.lt); (try replace r2 := r2.below (za.mono zb)); (try have zh := r3.lt); (try replace r3 := r3.below (za.mono zb)); (try have zh := r4.lt); (try replace r4 := r4.below (za.mono zb)); (try have zh := lm.lt); (try replace lm := lm.below (za.mono zb)); (try have zh := rs1.lt); (try replace rs1 := rs1.below (za.mono zb)); (try have zh := pc.lt); (try replace pc := pc.below (za.mono zb)); (try have zh := rs.lt); (try replace rs := rs.below (za.mono zb)); simp only [zn])
 refine wpList_nil ?_
 have k2 : w.heap.size ≤ b_r2 := by omega
 have k3 : b_r2 < b_r3 := by have := r2.lt; omega
 have k4 : b_r3 < b_r4 := by have := r3.lt; omega
 have k5 : b_r4 < b_e5 := by have := r4.lt; omega
 go_upto_region 1 with fail
 refine wp_region_lit ?_
 refine zx 1 ?_
 refine qE (enters_of Tryz.func16 (by kernel_rfl) rfl) (c := jh _ s true _ rs (by omega) HV0.out) (h := ?_)
 rintro e wn ⟨rfl, za⟩
 have zf := B.size
 have zg := za.size
 replace B := B.trans (za.mono B.size)
 (try replace r2 := r2.below za)
 (try replace r3 := r3.below za)
 (try replace r4 := r4.below za)
 (try replace e5 := e5.below za)
 (try replace lm := lm.below za)
 (try replace rs1 := rs1.below za)
 (try replace pc := pc.below za)
 (try replace rs := rs.below za)
 refine ⟨_, rfl, ?_⟩
 simp only [zn]
 refine zx 1 ?_
 refine wpList_nil ?_
 clear rs
 go_upto_region 3 with fail
 refine wp_region_lit ?_
 (refine zM rfl (.func (.func 72) #[] #[.pointer (some ⟨b_r3, 0, none⟩)]) (by first | rfl | simp [go_sem, Act.eval]) ?_; simp only [zn])
 (refine zr (t := 114) rfl _ (J1 _ _ rfl) (zV B ?_); clear B; intro b_f6 wn zb zd f6 za zf zk B; (try have zh := r2.lt); (try replace r2 := r2.below (za.mono zb)); (try have zh := r3.lt); (try replace r3 := r3.below (za.mono zb)); (try have zh := r4.lt); (try replace r4 := r4.below (za.mono zb)); (try have zh := e5.lt); (try replace e5 := e5.below (za.mono zb)); (try have zh := lm.lt); (try replace lm := lm.below (za.mono zb)); (try have zh := rs1.lt); (try replace rs1 := rs1.below (za.mono zb)); (try have zh := pc.lt); (try replace pc := pc.below (za.mono zb)); simp only [zn])
 (refine Zy rfl _ _ rfl _ rfl _ _ _ rfl f6 (qt B (by omega) ?_); have f6o := f6; clear f6 B; intro wn f6 ze zf zg B; replace rs1 := rs1.chg f6o (by simp) ze; (try replace r2 := r2.of_eq (ze.block _ r2.lt (by omega))); (try replace r3 := r3.of_eq (ze.block _ r3.lt (by omega))); (try replace r4 := r4.of_eq (ze.block _ r4.lt (by omega))); (try replace e5 := e5.of_eq (ze.block _ e5.lt (by omega))); (try replace lm := lm.of_eq (ze.block _ lm.lt (by omega))); (try replace rs1 := rs1.of_eq (ze.block _ rs1.lt (by omega))); (try replace pc := pc.of_eq (ze.block _ pc.lt (by omega))); simp only [zn])
 refine wpList_nil ?_
 have k6 : b_e5 < b_f6 := by have := e5.lt; omega
 go_upto_region 4 with fail
 refine wp_region_lit ?_
 refine zx 2 ?_
 refine wpList_nil ?_
 go_upto_if 23 with fail
 go_cut [] from 22 (fun wx => ∃ (gf : FuncId) (lb : Array Value), zF 114 wx b_f6 #[.func (.func gf) #[] lb] ∧ Hid (Go.Proofs.Enters Tryz.prog gf) ∧ Hid (∀ (W : World) (p q : Px) (n : Int), zF 30 W b_r3 (qw (.slice (some ⟨g, o, none⟩) s.pts.length cd) s) → p.ok → (0 ≤ n ∧ n ≤ 255) → chP s p n = q → Calls Tryz.prog gf (#[.agg (ka.enc p), .int .i64 n] ++ lb) W fun e w' => e = .returned (.agg (ka.enc q)) ∧ Below W.heap.size W w') ∧ Below w.heap.size w wx ∧ zF 64 wx b_r2 #[.slice a ls.length c] ∧ RS (.slice a ls.length c) ls wx ∧ zF 30 wx b_r3 (qw (.slice (some ⟨g, o, none⟩) s.pts.length cd) s) ∧ zF 64 wx b_r4 #[.slice none 0 0] ∧ zF 53 wx b_e5 #[.int .i64 0] ∧ xz wx ∧ zK qD g o s.pts wx)
 case first =>
  cases hera : s.era with
  | true =>
   have HERA := Lib.hid hera; clear hera; go_upto_region 5 with fail
   refine wp_region_lit ?_
   (refine Zy rfl _ _ rfl _ rfl _ _ _ rfl f6 (qt B (by omega) ?_); have f6o := f6; clear f6 B; intro wn f6 ze zf zg B; replace rs1 := rs1.chg f6o (by simp) ze; (try replace r2 := r2.of_eq (ze.block _ r2.lt (by omega))); (try replace r3 := r3.of_eq (ze.block _ r3.lt (by omega))); (try replace r4 := r4.of_eq (ze.block _ r4.lt (by omega))); (try replace e5 := e5.of_eq (ze.block _ e5.lt (by omega))); (try replace lm := lm.of_eq (ze.block _ lm.lt (by omega))); (try replace rs1 := rs1.of_eq (ze.block _ rs1.lt (by omega))); (try replace pc := pc.of_eq (ze.block _ pc.lt (by omega))); simp only [zn])
   refine wpList_nil ?_; go_wp2; go_meet; refine ⟨_, _, f6, Lib.hid (enters_of Tryz.func74 (by kernel_rfl) rfl), Lib.hid (fun W p q n h1 h2 h3 h4 => ?_), B, r2, rs1, r3, r4, e5, lm, pc⟩; exact zaA p q n W h3 h2 (by rw [← h4]; unfold chP; rw [HERA.out]; rfl)
  | false =>
   have HERA := Lib.hid hera; clear hera; go_wp2; go_meet; refine ⟨_, _, f6, Lib.hid (enters_of Tryz.func72 (by kernel_rfl) rfl), Lib.hid (fun W p q n h1 h2 h3 h4 => ?_), B, r2, rs1, r3, r4, e5, lm, pc⟩; exact zaz _ s p q n b_r3 W h1 h2 HCOL.out (by rw [← h4]; unfold chP; rw [HERA.out]; rfl)
 case rest =>
  clear B r2 rs1 r3 r4 e5 lm pc f6; obtain ⟨gf, lb, f6, HEN, HCH, B, r2, rs1, r3, r4, e5, lm, pc⟩ := hcut; obtain ⟨bv, hbv⟩ : ∃ b, qq ls = b := ⟨_, rfl⟩; have HBV := Lib.hid hbv; clear hbv; go_upto_region 6 with fail
  refine wp_region_lit ?_; refine zx 1 ?_
  refine qE (enters_of Tryz.func41 (by kernel_rfl) rfl) (c := zaH _ ls bv _ rs1 TK.out hn HBV.out) (h := ?_); rintro e wn ⟨rfl, za⟩; have zf := B.size; have zg := za.size; replace B := B.trans (za.mono B.size)
  (try replace f6 := f6.below za)
  (try replace r2 := r2.below za)
  (try replace r3 := r3.below za)
  (try replace r4 := r4.below za)
  (try replace e5 := e5.below za)
  (try replace lm := lm.below za)
  (try replace rs1 := rs1.below za)
  (try replace pc := pc.below za)
  refine ⟨_, rfl, ?_⟩; simp only [zn]; refine zx 1 ?_; refine wpList_nil ?_; go_upto_if 26 with fail
  go_cut [] from 22 (fun wx => ∃ (a0 : Option Addr) (c0 : Nat), zF 114 wx b_f6 #[.func (.func gf) #[] lb] ∧ Below w.heap.size w wx ∧ zF 64 wx b_r2 #[.slice a0 (qX ls).length c0] ∧ RS (.slice a0 (qX ls).length c0) (qX ls) wx ∧ zF 30 wx b_r3 (qw (.slice (some ⟨g, o, none⟩) s.pts.length cd) s) ∧ zF 64 wx b_r4 #[.slice none 0 0] ∧ zF 53 wx b_e5 #[.int .i64 0] ∧ xz wx ∧ zK qD g o s.pts wx)
  case first =>
   cases bv with
   | true =>
    go_wp2; go_meet; rw [yT HBV.out]; exact ⟨_, _, f6, B, r2, rs1, r3, r4, e5, lm, pc⟩
   | false =>
    go_upto_region 7 with fail
    refine wp_region_lit ?_
    (refine zM rfl (.agg #[.slice none 0 0]) (by kernel_rfl) ?_; simp only [zn])
    (refine zp (t := 64) rfl _ _ rfl _ rfl _ rfl r2 (by kernel_rfl) rfl (by simp [Value.oneCell']) (qt B (by omega) ?_); clear r2 B; intro wn r2 ze zf zg B; (try replace f6 := f6.of_eq (ze.block _ f6.lt (by omega))); (try replace r3 := r3.of_eq (ze.block _ r3.lt (by omega))); (try replace r4 := r4.of_eq (ze.block _ r4.lt (by omega))); (try replace e5 := e5.of_eq (ze.block _ e5.lt (by omega))); (try replace lm := lm.of_eq (ze.block _ lm.lt (by omega))); (try replace pc := pc.of_eq (ze.block _ pc.lt (by omega))); simp only [zn])
    refine wpList_nil ?_; go_wp2; go_meet; have hfn : qX ls = [] := by unfold qX; rw [HBV.out]; rfl
    rw [hfn]; exact ⟨_, _, f6, B, r2, RS.nil _, r3, r4, e5, lm, pc⟩
  case rest =>
   clear B r2 rs1 r3 r4 e5 lm pc f6 HBV; obtain ⟨a0, c0, f6, B, r2, rs1, r3, r4, e5, lm, pc⟩ := hcut; have VF := Lib.hid (xe ls); have TF := Lib.hid (ky TK.out); clear TK hn hc; obtain ⟨L0, hL0⟩ : ∃ l, qX ls = l := ⟨_, rfl⟩; rw [hL0] at r2 rs1 VF TF HFIN; clear hL0; have l6 := f6.lt; go_upto_region 8 with fail
   refine wp_region_lit ?_; refine zx 1 ?_
   refine qE (enters_of Tryz.func58 (by kernel_rfl) rfl) (c := zaS _ s _) (h := ?_); rintro e wn ⟨bw, rfl, hbw, r9, za⟩; have zf := B.size; have zg := za.size; replace B := B.trans (za.mono B.size)
   (try replace f6 := f6.below za)
   (try replace r2 := r2.below za)
   (try replace r3 := r3.below za)
   (try replace r4 := r4.below za)
   (try replace e5 := e5.below za)
   (try replace lm := lm.below za)
   (try replace rs1 := rs1.below za)
   (try replace pc := pc.below za)
   refine ⟨_, rfl, ?_⟩; simp only [zn]; refine wpList_nil ?_; have k7 : b_f6 < bw := by omega
   have k8 := r9.lt; obtain ⟨w1, hw1⟩ : ∃ w1, w1 = wn := ⟨_, rfl⟩; rw [← hw1] at B r2 rs1 r3 r4 e5 lm pc f6 r9 k8 ⊢; clear hw1; have hszB := B.size; go_wp2; refine (wpIn_wide (n := 3)).1 ?_; refine JX (F := Fence.wide) rfl (by omega) (gf := 109) (lb := #[.pointer (some ⟨bw, 0, none⟩)]) rfl trivial (enters_of Tryz.func109 (by kernel_rfl) rfl) (QD s HVS.out g o cd bw b_r2 w1.heap.size _ (by omega) _ r9 hcd pc (by omega) (by omega) (by omega) (by omega) (Nat.le_refl _)) (fun h k => uT.trans h k) (fun W l o o' hl ho hc _ => uT.putObj W l o o' hl ho hc) (fun A B h => uT.below h) (Below.refl _ _) (fun _ => rfl)
    (fun pre W => ∃ (a1 : Option Addr) (c1 : Nat) (M : List TA), Hid (xK s (pre.map (fun i => jK s i.val)) L0 = (M, 0)) ∧ zF 64 W b_r2 #[.slice a1 M.length c1] ∧ RS (.slice a1 M.length c1) M W ∧ zF 30 W b_r3 (qw (.slice (some ⟨g, o, none⟩) s.pts.length cd) s) ∧ zF 64 W b_r4 #[.slice none 0 0] ∧ zF 53 W b_e5 #[.int .i64 0] ∧ zF 114 W b_f6 #[.func (.func gf) #[] lb] ∧ xz W ∧ Below w.heap.size w W)
    (fun pre W => ∃ (E : Int), Hid ((xK s (pre.map (fun i => jK s i.val)) L0).2 = E ∧ E ≠ 0) ∧ zF 64 W b_r4 #[.slice none 0 0] ∧ zF 53 W b_e5 #[.int .i64 E] ∧ Below w.heap.size w W)
    (fun pre W W' row hI hg hr => ?own) (fun pre W W' row hI hg hr => ?ownX)
    ⟨a0, c0, L0, Lib.hid rfl, r2, rs1, r3, r4, e5, f6, lm, B⟩
    (fun x a' W => ∃ b7 : Nat, a'.defers = [] ∧ a'.tmps.size = 99 ∧ a'.tmps.getD 2 undef = .pointer (some ⟨b_r2, 0, none⟩) ∧ a'.tmps.getD 3 undef = .pointer (some ⟨b_r3, 0, none⟩) ∧ a'.tmps.getD 4 undef = .pointer (some ⟨b_r4, 0, none⟩) ∧ a'.tmps.getD 5 undef = .pointer (some ⟨b_e5, 0, none⟩) ∧ a'.tmps.getD 6 undef = .pointer (some ⟨b_f6, 0, none⟩) ∧ a'.tmps.getD 7 undef = .pointer (some ⟨b7, 0, none⟩) ∧ zF 45 W b7 (kx.enc (jK s x.val)) ∧ b_f6 < b7)
    (fun x a' W W' row hA hg hr => ?own2) ?assign ?body ?done ?stop
   case own =>
    obtain ⟨a1, c1, M, h0, h1, h2, h3, h4, h5, h6, h7, h8⟩ := hI; have hne : ∀ b, b < w1.heap.size → row ≠ some b := fun b hb e => by have := (hr _ e).1; omega
    refine ⟨a1, c1, M, h0, h1.grown hg (hne _ (by omega)), h2.own3 hg (fun r e => ?_), h3.grown hg (hne _ (by omega)), h4.grown hg (hne _ (by omega)), h5.grown hg (hne _ (by omega)), h6.grown hg (hne _ (by omega)), h7.of_eq (hg.block _ h7.lt (fun e => hne _ (by omega) e.symm)), yP h8 h8.size hg (fun r e => Nat.le_trans hszB (hr r e).1)⟩; rcases (hr r e).2 with h | ⟨_, h⟩
    ·exact .inl h
    ·exact .inr h
   case ownX =>
    obtain ⟨E, h0, h4, h5, h8⟩ := hI; have hne : ∀ b, b < w1.heap.size → row ≠ some b := fun b hb e => by have := (hr _ e).1; omega
    exact ⟨E, h0, h4.grown hg (hne _ (by omega)), h5.grown hg (hne _ (by omega)), yP h8 h8.size hg (fun r e => Nat.le_trans hszB (hr r e).1)⟩
   case own2 =>
    obtain ⟨b7, e1, e2, e3, e4, e5', e6, e7, e8, h1, h2⟩ := hA; exact ⟨b7, e1, e2, e3, e4, e5', e6, e7, e8, h1.own hg (fun r e => (hr r e).2), h2⟩
   case assign =>
    intro l pre x W K ⟨_, _, _, _, _, _, _, _, _, hl6, _⟩ hbig hK; have B := Below.refl W.heap.size W; have hl := hl6.lt; obtain ⟨D, hD⟩ : ∃ p, jK s x.val = p := ⟨_, rfl⟩; rw [hD] at hK; rw [hD]
    dsimp only
    refine Xj ?_; simp only [List.setIfInBounds_toArray, List.set_cons_succ, List.set_cons_zero]; refine zA (by kernel_rfl) ?_
    (refine zr (t := 45) rfl _ (yM _ _ rfl) (zV B ?_); clear B; intro b_d7 wn zb zd d7 za zf zk B; simp only [zn])
    (refine zp (t := 45) rfl _ _ rfl _ rfl _ rfl d7 (by kernel_rfl) rfl (by simp [kx, Value.oneCell']) (qt B (by omega) ?_); clear d7 B; intro wn d7 ze zf zg B; simp only [zn])
    refine wpList_nil ?_; refine ql.at ?_; refine hK _ _ B ⟨_, rfl, rfl, rfl, rfl, rfl, rfl, rfl, rfl, d7, by omega⟩
   case stop =>
    rintro D pre W hD ⟨k, rfl⟩ ⟨E, HE, r4, e5, BW⟩ hDD; have kd : yq W D := hDD; have hE := Wt s k L0 HE.out.1 HE.out.2; rw [← HFIN.out] at hE; have HEQ := Lib.hid hE; clear hE; have BF := BW.trans (belowK_b (w := w) (Nat.le_refl _) W D _ (.deferred none) (by omega) kd rfl rfl); refine ⟨by simp, .inl ⟨_, _, rfl, run_takeDeferred kd, ?_⟩⟩; refine ⟨_, xj (t := 64) (u := 53) rfl _ _ b_r4 b_e5 rfl rfl ((World.putObj_heap_other (fun e => kd.ne r4 (by omega))).trans r4) (jP ((World.putObj_heap_other (fun e => kd.ne e5 (by omega))).trans e5)) Tryz.isAgg64 (by kernel_rfl), ?_⟩; rw [HEQ.out]; exact ⟨none, 0, rfl, RS.nil _, BF⟩
   case done =>
    rintro D xs W hD rfl ⟨a1, c1, M, HM, r2, rs1, r3, r4, e5, f6, lm, BW⟩ hDD; have kd : yq W D := hDD; have hM := HM.out; rw [Z9] at hM; have hval := (w9 HCOL.out (jY s) VF.out TF.out).1; rw [hM] at hval; rw [← HFIN.out] at hM; have hMn := (xF.1 hval).1
    dsimp only at hMn
    have HEQ := Lib.hid hM; have B := BW; have hwD : w.heap.size ≤ D := by omega
    have hne := kd.ne r4; have hne5 := kd.ne e5; clear BW r3 f6 lm hD hval hM; go_upto_region 28 with fail
    refine wp_region_lit ?_; refine zx 2 ?_
    refine qE (enters_of Tryz.func78 (by kernel_rfl) rfl) (c := xN _ M _ rs1 (by omega)) (h := ?_); rintro e wn ⟨v2, b2, rfl, _, _, od2, za⟩; have zf := B.size; have zg := za.size; replace B := B.trans (za.mono B.size)
    (try replace r2 := r2.below za)
    (try replace r4 := r4.below za)
    (try replace e5 := e5.below za)
    (try replace kd := kd.below za)
    have rs2 := od2.rs; clear od2; obtain ⟨a2, c2, rfl, hc2⟩ := rs2.len; refine ⟨_, rfl, ?_⟩; simp only [zn]; refine zx 1 ?_
    (refine zp (t := 64) rfl _ _ rfl _ rfl _ rfl r4 (by kernel_rfl) rfl (by simp [Value.oneCell']) (qt B (by omega) ?_); have r4o := r4; clear r4 B; intro wn r4 ze zf zg B; (try replace rs2 := rs2.chg r4o (by simp) ze); (try replace r2 := r2.of_eq (ze.block _ r2.lt (by omega))); (try replace e5 := e5.of_eq (ze.block _ e5.lt (by omega))); (try replace kd := kd.of_eq (ze.block _ kd.lt (by omega))); simp only [zn])
    (refine vU rfl _ _ rfl _ rfl _ rfl e5 (qt B (by omega) ?_); have e5o := e5; clear e5 B; intro wn e5 ze zf zg B; replace rs2 := rs2.chg e5o (by simp) ze; (try replace r2 := r2.of_eq (ze.block _ r2.lt (by omega))); (try replace r4 := r4.of_eq (ze.block _ r4.lt (by omega))); (try replace kd := kd.of_eq (ze.block _ kd.lt (by omega))); simp only [zn])
    refine wpList_nil ?_; go_wp2; refine ⟨by simp, .inl ⟨_, _, rfl, run_takeDeferred kd, ?_⟩⟩; refine ⟨_, xj (t := 64) (u := 53) rfl _ _ b_r4 b_e5 rfl rfl ((World.putObj_heap_other (fun e => hne (by omega))).trans r4) (jP ((World.putObj_heap_other (fun e => hne5 (by omega))).trans e5)) Tryz.isAgg64 (by kernel_rfl), ?_⟩; have BF := B.trans (belowK_b (w := w) (Nat.le_refl _) wn D _ (.deferred none) hwD kd rfl rfl); rw [HEQ.out]; exact ⟨_, _, rfl, rs2.own (grownBy_putObj' _ _ _) (fun r e => by cases e; exact ⟨_, kd, rfl⟩), BF⟩
   case body =>
    rintro l pre x W ⟨tm, df⟩ ⟨a1, c1, M, HM, r2, rs1, r3, r4, e5, f6, lm, BW⟩ ⟨b7, e1, e2, e3, e4, e5', e6, e7, e8, p7, k10⟩ hpre; obtain ⟨U, hU, hUi⟩ := Y6 tm 99 e2
    dsimp only at e3 e4 e5' e6 e7 e8
    rw [← hUi] at e3 e4 e5' e6 e7 e8; have eL : ((List.range 99).map U).toArray = #[U 0, U 1, U 2, U 3, U 4, U 5, U 6, U 7, U 8, U 9, U 10, U 11, U 12, U 13, U 14, U 15, U 16, U 17, U 18, U 19, U 20, U 21, U 22, U 23, U 24, U 25, U 26, U 27, U 28, U 29, U 30, U 31, U 32, U 33, U 34, U 35, U 36, U 37, U 38, U 39, U 40, U 41, U 42, U 43, U 44, U 45, U 46, U 47, U 48, U 49, U 50, U 51, U 52, U 53, U 54, U 55, U 56, U 57, U 58, U 59, U 60, U 61, U 62, U 63, U 64, U 65, U 66, U 67, U 68, U 69, U 70, U 71, U 72, U 73, U 74, U 75, U 76, U 77, U 78, U 79, U 80, U 81, U 82, U 83, U 84, U 85, U 86, U 87, U 88, U 89, U 90, U 91, U 92, U 93, U 94, U 95, U 96, U 97, U 98] := rfl; rw [eL] at hU; rw [e3, e4, e5', e6, e7, e8] at hU; subst hU; have e1 : df = [] := e1; subst e1; clear e2 e3 e4 e5' e6 e7 e8 hUi eL; have hval := w9 HCOL.out (pre.map (fun i => jK s i.val)) VF.out TF.out; have HST0 : xK s ((pre ++ [x]).map (fun i => jK s i.val)) L0 = j4 s (M, 0) (jK s x.val) := by
     rw [List.map_append]; show xK s (pre.map (fun i => jK s i.val) ++ [jK s x.val]) L0 = _
     rw [Ws, HM.out]
    rw [HM.out] at hval; have VM := Lib.hid hval.1; have TM := Lib.hid hval.2; have hMn := (xF.1 hval.1).1
    dsimp only at hMn
    have OKD := Lib.hid (Vj HVS.out x.isLt)
    generalize hD : jK s x.val = D at *
    obtain ⟨o1, o2, o3, o4, o5, o6⟩ := OKD.out; have HST := Lib.hid HST0; clear hD HST0 hval HM; obtain ⟨qs, hqs⟩ : ∃ q, kX D = q := ⟨_, rfl⟩; obtain ⟨c, hcc⟩ : ∃ q, ZC D = q := ⟨_, rfl⟩; have HQS := Lib.hid hqs; have HC0 := Lib.hid hcc; have HC := Lib.hid (show kP qs JR = c from by rw [← hqs, ← hcc]; rfl)
    clear hqs hcc; have R2W := Lib.hid r2; have RS1W := Lib.hid rs1; have R4W := Lib.hid r4; have E5W := Lib.hid e5; have LMW := Lib.hid lm; have BWW := Lib.hid BW; have hws := BW.size; have l2 := r2.lt; have l3 := r3.lt; have l4 := r4.lt; have l5 := e5.lt; have l6 := f6.lt; have l7 := p7.lt; have l0 := lm.lt; have B := Below.refl W.heap.size W; clear rs1 r4 e5 BW; gi_upto_region 10 with fail
    try have lx_r2 := r2.lt
    try have lx_r3 := r3.lt
    try have lx_f6 := f6.lt
    try have lx_lm := lm.lt
    try have lx_p7 := p7.lt
    refine Yn (by kernel_rfl) 5 [(1, zP ?v1_1), (3, zP ?v1_3), (4, zfM (W.heap.size) 38 #[.int .i64 0, .int .i64 0, .int .i64 0, .int .i64 0])] (by kernel_rfl) (by kernel_rfl) (by kernel_rfl) ?_
    rotate_left 2
    simp only [jU, Nat.reduceAdd]; refine vC 1 ?_
    refine zz (by rfl) (by first | rfl | simp [Region.wanted, yielded]) ?_ ?_
    ·intro wn za hE Kx hKx
     have zf := B.size; have zg := za.size; replace B := B.trans (za.mono B.size)
     (try replace r2 := r2.below za)
     (try replace r3 := r3.below za)
     (try replace f6 := f6.below za)
     (try replace lm := lm.below za)
     (try replace p7 := p7.below za)
     refine zS rfl (enters_of Tryz.func62 (by kernel_rfl) rfl) (by simp only [Act.eval, qI]; rfl) ?_
     refine (ys D qs wn (by omega) (by omega) (by omega) HQS.out).mono ?_; rintro e wm ⟨rfl, zl⟩; refine ⟨_, rfl, ?_⟩; have hz := hKx () wm trivial zl
     dsimp only [zP] at hz
     exact hz
    rintro ⟨⟩
    dsimp only [zP]
    simp only [zn]; refine ug 1 ?_; repeat (first | go_big_quiet_skip | (go_big_quiet_want; first | ((first | refine zo (t := 38) rfl _ _ _ rfl (fun w hw => uM (zbI lm w hw)) (by first | rfl | omega) ?_ | refine qB ?_ | refine qC ?_); simp only [zn]; go_big_quiet_on) | (go_big_quiet_op; go_big_quiet_on)))
    refine wpQuiet_nil ?_; refine zz (by rfl) (by first | rfl | simp [Region.wanted, yielded]) ?_ ?_
    ·intro wn za hE Kx hKx
     have zf := B.size; have zg := za.size; replace B := B.trans (za.mono B.size)
     (try replace r2 := r2.below za)
     (try replace r3 := r3.below za)
     (try replace f6 := f6.below za)
     (try replace lm := lm.below za)
     (try replace p7 := p7.below za)
     refine zS rfl (enters_of Tryz.func46 (by kernel_rfl) rfl) (by simp only [Act.eval, qI]; rfl) ?_
     refine (Xr qs JR c wn HC.out).mono ?_; rintro e wm ⟨rfl, zl⟩; refine ⟨_, rfl, ?_⟩; have hz := hKx () wm trivial zl
     dsimp only [zP] at hz
     exact hz
    rintro ⟨⟩
    dsimp only [zP]
    simp only [zn]; refine zz (by rfl) (by first | rfl | simp [Region.wanted, yielded]) ?_ ?_
    ·intro wn za hE Kx hKx
     have zf := B.size; have zg := za.size; replace B := B.trans (za.mono B.size)
     (try replace r2 := r2.below za)
     (try replace r3 := r3.below za)
     (try replace f6 := f6.below za)
     (try replace lm := lm.below za)
     (try replace p7 := p7.below za)
     refine zR (t := 38) _ (zY _ _ rfl) ?_; intro b wm h1 h2 ht zl zm; exact hKx b wm ⟨Nat.le_trans za.size h1, ht⟩ (zl.mono h1)
    rintro b_c8
    dsimp only [zP, zfM]
    simp only [zn]; refine qz ?_; intro wn za hE; have zf := B.size; have zg := za.size; replace B := B.trans (za.mono B.size)
    (try replace r2 := r2.below za)
    (try replace r3 := r3.below za)
    (try replace f6 := f6.below za)
    (try replace lm := lm.below za)
    (try replace p7 := p7.below za)
    obtain ⟨hge_c8, c8⟩ : _ ∧ zF _ _ _ _ := hE 4; clear hE; try simp only [List.drop_succ_cons, List.drop_zero]
    (refine zp (t := 38) rfl _ _ rfl _ rfl _ rfl c8 (by kernel_rfl) rfl (by simp [jV, Value.oneCell']) (qt B (by omega) ?_); clear c8 B; intro wn c8 ze zf zg B; (try replace r2 := r2.of_eq (ze.block _ r2.lt (by omega))); (try replace r3 := r3.of_eq (ze.block _ r3.lt (by omega))); (try replace f6 := f6.of_eq (ze.block _ f6.lt (by omega))); (try replace lm := lm.of_eq (ze.block _ lm.lt (by omega))); (try replace p7 := p7.of_eq (ze.block _ p7.lt (by omega))); simp only [zn])
    refine wpList_nil ?_; refine zQ.normal ?_; refine ql.at ?_; try dsimp only
    replace c8 : zF 38 _ b_c8 (jV c) := c8; have k11 : W.heap.size ≤ b_c8 := by omega
    by_cases hr1 : D.r < 1
    ·have q1 : decide (D.r < 1) = true := decide_eq_true hr1
     gi_upto_region 11 with fail
     refine zA (by kernel_rfl) ?_; refine zx 5 ?_
     refine zH ?hs11_5 ?_
     case hs11_5 => kernel_rfl
     simp only [zn]; refine zx 1 ?_; refine wpList_nil ?_; refine ql.at ?_; try dsimp only
     gi_wp2
     refine ⟨KeepsOthers.below B, uT.below B, a1, c1, M, Lib.hid ?_, r2, RS1W.out.below B, r3, R4W.out.of_eq (B.block _ l4), E5W.out.of_eq (B.block _ l5), f6, lm, BWW.out.trans (B.mono hws)⟩; rw [HST.out]; exact wd s _ (by unfold VQ; rw [q1]; rfl)
    ·have q1 : decide (D.r < 1) = false := decide_eq_false hr1
     cases hem : qo c with
     | true =>
      have HEM := Lib.hid hem; clear hem; gi_upto_region 11 with fail
      refine zA (by kernel_rfl) ?_; refine zx 5 ?_
      refine qE (enters_of Tryz.func45 (by kernel_rfl) rfl) (c := ZS c true _ HEM.out) (h := ?_); rintro e wn ⟨rfl, za⟩; have zf := B.size; have zg := za.size; replace B := B.trans (za.mono B.size)
      (try replace r2 := r2.below za)
      (try replace r3 := r3.below za)
      (try replace f6 := f6.below za)
      (try replace lm := lm.below za)
      (try replace p7 := p7.below za)
      (try replace c8 := c8.below za)
      refine ⟨_, rfl, ?_⟩; simp only [zn]; refine zx 1 ?_; refine wpList_nil ?_; refine ql.at ?_; try dsimp only
      gi_wp2
      refine ⟨KeepsOthers.below B, uT.below B, a1, c1, M, Lib.hid ?_, r2, RS1W.out.below B, r3, R4W.out.of_eq (B.block _ l4), E5W.out.of_eq (B.block _ l5), f6, lm, BWW.out.trans (B.mono hws)⟩; rw [HST.out]; exact wd s _ (by unfold VQ; rw [HC0.out, HEM.out]; simp)
     | false =>
      have HSK : VQ D = false := by unfold VQ; rw [HC0.out, hem, q1]; rfl
      have HEM := Lib.hid hem; clear hem; obtain ⟨HE1, HF1⟩ := Xc OKD.out HSK; rw [HC0.out] at HE1 HF1; have HST2 : xK s ((pre ++ [x]).map (fun i => jK s i.val)) L0 = (kE c (vw s D M) M, uE c (vw s D M) M) := by rw [HST.out, JM s HSK, HC0.out]
      have HIL : vw s D M = yV c (fun x y => JN s (vr D x y) (xJ M x y)) := by unfold vw; rw [HC0.out]
      have okI : V3 (vw s D M) := Vr HCOL.out D TM.out; have hIn : (vw s D M).length = areaN c := by rw [Qe, HC0.out]
      have HE0 := Lib.hid HE1; have HFit := Lib.hid HF1; have HA := Lib.hid (ZJ HF1); have HAW := Lib.hid (xQ HF1).1; obtain ⟨f1, f2, f3, f4, f5, f6', f7, f8⟩ := HF1; have hwid : (widN c : Int) = c.x1 - c.x0 := by unfold widN; omega
      obtain ⟨Wd, hWd⟩ : ∃ n, widN c = n := ⟨_, rfl⟩; rw [hWd] at hwid; have HWD := Lib.hid hWd; clear hWd HE1; obtain ⟨I, hI⟩ : ∃ l, vw s D M = l := ⟨_, rfl⟩; rw [hI] at HST2 HIL okI hIn; have HS2 := Lib.hid HST2; have HI := Lib.hid HIL; have OKI := Lib.hid okI; clear HST2 HIL okI hI HSK HST; obtain ⟨R', hR'⟩ : ∃ l, kE c I M = l := ⟨_, rfl⟩; obtain ⟨E, hE⟩ : ∃ e, uE c I M = e := ⟨_, rfl⟩; have HR' := Lib.hid hR'; have HEe := Lib.hid hE; clear hR' hE; gi_upto_region 11 with fail
      refine zA (by kernel_rfl) ?_; refine zx 5 ?_
      refine qE (enters_of Tryz.func45 (by kernel_rfl) rfl) (c := ZS c false _ HEM.out) (h := ?_); rintro e wn ⟨rfl, za⟩; have zf := B.size; have zg := za.size; replace B := B.trans (za.mono B.size)
      (try replace r2 := r2.below za)
      (try replace r3 := r3.below za)
      (try replace f6 := f6.below za)
      (try replace lm := lm.below za)
      (try replace p7 := p7.below za)
      (try replace c8 := c8.below za)
      refine ⟨_, rfl, ?_⟩; simp only [zn]; refine zx 1 ?_; refine wpList_nil ?_; refine ql.at ?_; try dsimp only
      have rs1 := RS1W.out.below B; have hc8 := c8.lt; have hszW := B.size; gi_upto_region 12 with fail
      refine zA (by kernel_rfl) ?_; refine zx 2 ?_
      refine qE (enters_of Tryz.func76 (by kernel_rfl) rfl) (c := Xp _ M c _ rs1 TM.out VM.out HE0.out) (h := ?_); rintro e wn ⟨cb, hcb, rfl, row, za⟩; have zf := B.size; have zg := za.size; replace B := B.trans (za.mono B.size)
      (try replace r2 := r2.below za)
      (try replace r3 := r3.below za)
      (try replace f6 := f6.below za)
      (try replace lm := lm.below za)
      (try replace p7 := p7.below za)
      (try replace c8 := c8.below za)
      (try replace row := row.below za)
      have kcb : W.heap.size ≤ cb := by omega
      have kc8 : @LT.lt Nat _ b_c8 cb := by omega
      clear rs1; refine ⟨_, rfl, ?_⟩; simp only [zn]; refine zx 3 ?_
      (have _ := row.lt; refine zr (t := 117) rfl _ (xV _ _ rfl) (zV B ?_); clear B; intro b_i9 wn zb zd i9 za zf zk B; (try have zh := r2.lt); (try replace r2 := r2.below (za.mono zb)); (try have zh := r3.lt); (try replace r3 := r3.below (za.mono zb)); (try have zh := f6.lt); (try replace f6 := f6.below (za.mono zb)); (try have zh := lm.lt); (try replace lm := lm.below (za.mono zb)); (try have zh := p7.lt); (try replace p7 := p7.below (za.mono zb)); (try have zh := c8.lt); (try replace c8 := c8.below (za.mono zb)); (try have zh := row.lt); (try replace row := row.below (za.mono zb)); simp only [zn])
      (refine zp (t := 117) rfl _ _ rfl _ rfl _ rfl i9 (by kernel_rfl) rfl (by simp [xg, Value.oneCell']) (qt B (by omega) ?_); clear i9 B; intro wn i9 ze zf zg B; (try replace r2 := r2.of_eq (ze.block _ r2.lt (by omega))); (try replace r3 := r3.of_eq (ze.block _ r3.lt (by omega))); (try replace f6 := f6.of_eq (ze.block _ f6.lt (by omega))); (try replace lm := lm.of_eq (ze.block _ lm.lt (by omega))); (try replace p7 := p7.of_eq (ze.block _ p7.lt (by omega))); (try replace c8 := c8.of_eq (ze.block _ c8.lt (by omega))); (try replace row := row.of_eq (ze.block _ row.lt (by omega))); simp only [zn])
      refine zx 1 ?_; refine wpList_nil ?_; refine ql.at ?_; try dsimp only
      replace i9 : zF 117 _ b_i9 (xg c (.slice (some ⟨cb, 0, none⟩) (areaN c) (areaN c))) := i9; have kci : b_i9 ≠ cb := by omega
      clear lm r2; gi_upto_region 13 with fail
      refine zA (by kernel_rfl) ?_; refine zx 1 ?_; refine wpList_nil ?_; refine ql.at ?_; try dsimp only
      gi_upto_region 14 with fail
      refine zA (by kernel_rfl) ?_; refine zx 3 ?_
      refine wpList_nil ?_; refine ql.at ?_; try dsimp only
      gi_wp2
      gi_loopw [11, 12, 13, 14] (fun kv yv _ _ wr => ∃ (i k : Nat) (R : List Px), (i : Int) ≤ c.y1 - c.y0 ∧ Hid (k = i * Wd) ∧ kv = .int .i64 (k : Int) ∧ yv = .int .i64 (c.y0 + (i : Int)) ∧ Hid (kj c (fun x y => JN s (vr D x y) (xJ M x y)) (fun x y => xJ M x y) k = R) ∧ Below W.heap.size W wr ∧ zF 45 wr b7 (kx.enc D) ∧ zF 38 wr b_c8 (jV c) ∧ zF 117 wr b_i9 (xg c (.slice (some ⟨cb, 0, none⟩) (areaN c) (areaN c))) ∧ zF 114 wr b_f6 #[.func (.func gf) #[] lb] ∧ zF 30 wr b_r3 (qw (.slice (some ⟨g, o, none⟩) s.pts.length cd) s) ∧ ji ka wr cb R) (fun _ yv _ _ _ => (c.y1 - intOf yv).toNat)
      case atStart => exact ⟨0, 0, _, by omega, Lib.hid (by rw [Nat.zero_mul]), rfl, by rw [Int.natCast_zero, Int.add_zero], Lib.hid (Wv c M _), B, p7, c8, i9, f6, r3, row⟩
      case round =>
       clear B p7 c8 i9 f6 r3 row; obtain ⟨i, k, R, hi, HK, rfl, rfl, HR, B, p7, c8, i9, f6, r3, row⟩ := hrel; by_cases hi1 : (i : Int) < c.y1 - c.y0
       ·have q2 : decide (c.y0 + (i : Int) < c.y1) = true := decide_eq_true (by omega)
        gi_upto_region 15 with fail
        refine zA (by kernel_rfl) ?_; refine zx 4 ?_
        refine wpList_nil ?_; refine ql.at ?_; try dsimp only
        gi_upto_region 17 with fail
        refine zA (by kernel_rfl) ?_; refine zx 3 ?_
        refine wpList_nil ?_; refine ql.at ?_; try dsimp only
        gi_wp2
        gi_loopw [11, 13, 14] (fun kv xv _ wr => ∃ (j k : Nat) (R : List Px), (j : Int) ≤ c.x1 - c.x0 ∧ Hid (k = i * Wd + j) ∧ kv = .int .i64 (k : Int) ∧ xv = .int .i64 (c.x0 + (j : Int)) ∧ Hid (kj c (fun x y => JN s (vr D x y) (xJ M x y)) (fun x y => xJ M x y) k = R) ∧ Below W.heap.size W wr ∧ zF 45 wr b7 (kx.enc D) ∧ zF 38 wr b_c8 (jV c) ∧ zF 117 wr b_i9 (xg c (.slice (some ⟨cb, 0, none⟩) (areaN c) (areaN c))) ∧ zF 114 wr b_f6 #[.func (.func gf) #[] lb] ∧ zF 30 wr b_r3 (qw (.slice (some ⟨g, o, none⟩) s.pts.length cd) s) ∧ ji ka wr cb R) (fun _ xv _ _ => (c.x1 - intOf xv).toNat)
        case atStart => exact ⟨0, k, R, by omega, Lib.hid (by rw [Nat.add_zero]; exact HK.out), rfl, by rw [Int.natCast_zero, Int.add_zero], HR, B, p7, c8, i9, f6, r3, row⟩
        case round =>
         clear B p7 c8 i9 f6 r3 row HR HK; obtain ⟨j, k, R, hj, HK, rfl, rfl, HR, B, p7, c8, i9, f6, r3, row⟩ := hrel; by_cases hj1 : (j : Int) < c.x1 - c.x0
         ·have q3 : decide (c.x0 + (j : Int) < c.x1) = true := decide_eq_true (by omega)
          have hat := zbv HFit.out (fun x y => JN s (vr D x y) (xJ M x y)) (fun x y => xJ M x y) (i := i) (j := j) hj1 hi1; rw [HWD.out] at hat; simp only [← Nat.add_assoc, ← HK.out] at hat; obtain ⟨hka, hp, hset, hsame⟩ := hat; have okp : (xJ M (c.x0 + (j : Int)) (c.y0 + (i : Int))).ok := kH TM.out _ _ _ (by omega); obtain ⟨p, hpe⟩ : ∃ p, xJ M (c.x0 + (j : Int)) (c.y0 + (i : Int)) = p := ⟨_, rfl⟩; obtain ⟨n, hn⟩ : ∃ n, vr D (c.x0 + (j : Int)) (c.y0 + (i : Int)) = n := ⟨_, rfl⟩; have hnb := zcV D (c.x0 + (j : Int)) (c.y0 + (i : Int)); rw [hpe] at hp hset hsame okp; rw [hn] at hset hsame hnb; rw [HR.out] at hp hset hsame; have HN := Lib.hid hn; have OKP := Lib.hid okp; have hRl : R.length = areaN c := by rw [← HR.out]; exact zbs _ _ _ _
          have hA2 := HA.out; have hkR : k < R.length := by omega
          have HP := Lib.hid hp; clear hn hpe okp hp; gi_upto_region 18 with fail
          refine zA (by kernel_rfl) ?_; refine zx 4 ?_
          refine wpList_nil ?_; refine ql.at ?_; try dsimp only
          gi_upto_region 20 with fail
          refine zA (by kernel_rfl) ?_; refine zx 3 ?_
          refine qE (enters_of Tryz.func24 (by kernel_rfl) rfl) (c := KV D (c.x0 + (j : Int)) (c.y0 + (i : Int)) n _ (by omega) (by omega) (by omega) HN.out) (h := ?_); rintro e wn ⟨rfl, za⟩; have zf := B.size; have zg := za.size; replace B := B.trans (za.mono B.size)
          (try replace p7 := p7.below za)
          (try replace c8 := c8.below za)
          (try replace i9 := i9.below za)
          (try replace f6 := f6.below za)
          (try replace r3 := r3.below za)
          (try replace row := row.below za)
          refine ⟨_, rfl, ?_⟩; simp only [zn]; refine zx 1 ?_; refine wpList_nil ?_; refine ql.at ?_; try dsimp only
          by_cases hn0 : 0 < n
          ·have q4 : decide (0 < n) = true := decide_eq_true hn0
           have q4' : decide (n > 0) = true := decide_eq_true hn0; obtain ⟨q, hq⟩ : ∃ q, chP s p n = q := ⟨_, rfl⟩; rw [Vs, if_pos hn0, hq] at hset; have HQ := Lib.hid hq; have HSET := Lib.hid hset; clear hq hset hsame; gi_upto_region 21 with fail
           refine zA (by kernel_rfl) ?_; refine zx 2 ?_; refine wpList_nil ?_; refine ql.at ?_; try dsimp only
           have rc := row.cells; have q5 : decide ((k : Int) < (areaN c : Int)) = true := decide_eq_true (by omega); have q6 : decide (k < areaN c) = true := decide_eq_true hka; gi_upto_region 22 with fail
           try have lx_p7 := p7.lt
           try have lx_c8 := c8.lt
           try have lx_i9 := i9.lt
           try have lx_f6 := f6.lt
           try have lx_r3 := r3.lt
           try have lx_row := row.lt
           try have lx_rc := rc.lt
           refine Yn (by kernel_rfl) 12 [(10, zP ?v2_10)] (by kernel_rfl) (by kernel_rfl) (by kernel_rfl) ?_
           rotate_left 1
           simp only [jU, Nat.reduceAdd]; refine ug 10 ?_; repeat (first | go_big_quiet_skip | (go_big_quiet_want; first | ((first | refine zo (t := 115) rfl _ _ _ rfl (fun w hw => jR (wZ (zD i9 w hw))) (by first | rfl | omega) ?_ | refine zo (t := 114) rfl _ _ _ rfl (fun w hw => Yv (zD f6 w hw)) (by rfl) ?_ | refine zo (t := 28) rfl _ _ _ rfl (fun w hw => (jt rc w hw).load Tryz.isAgg28 HP.out) (by first | rfl | omega) ?_ | refine qB ?_ | refine qC ?_); simp only [zn]; go_big_quiet_on) | (go_big_quiet_op; go_big_quiet_on)))
           refine wpQuiet_nil ?_; refine zz (by rfl) (by first | rfl | simp [Region.wanted, yielded]) ?_ ?_
           ·intro wn za hE Kx hKx
            have zf := B.size; have zg := za.size; replace B := B.trans (za.mono B.size)
            (try replace p7 := p7.below za)
            (try replace c8 := c8.below za)
            (try replace i9 := i9.below za)
            (try replace f6 := f6.below za)
            (try replace r3 := r3.below za)
            (try replace row := row.below za)
            (try replace rc := rc.below za)
            refine YP rfl (by simp only [Act.eval, qI]; rfl) HEN.out (by simp only [Act.eval, qI]; rfl) ?_
            refine (HCH.out wn p q n r3 OKP.out hnb HQ.out).mono ?_; rintro e wm ⟨rfl, zl⟩; refine ⟨_, rfl, ?_⟩; have hz := hKx () wm trivial zl
            dsimp only [zP] at hz
            exact hz
           rintro ⟨⟩
           dsimp only [zP]
           simp only [zn]; refine vC 1 ?_; refine qz ?_; intro wn za hE; have zf := B.size; have zg := za.size; replace B := B.trans (za.mono B.size)
           (try replace p7 := p7.below za)
           (try replace c8 := c8.below za)
           (try replace i9 := i9.below za)
           (try replace f6 := f6.below za)
           (try replace r3 := r3.below za)
           (try replace row := row.below za)
           (try replace rc := rc.below za)
           clear hE; try simp only [List.drop_succ_cons, List.drop_zero]
           clear rc
           (refine vq rfl _ _ rfl _ _ rfl q rfl row k hkR (by first | rfl | omega) (qt B (by omega) ?_); clear row B; intro wn row ze zf zg B; (try replace p7 := p7.of_eq (ze.block _ p7.lt (by omega))); (try replace c8 := c8.of_eq (ze.block _ c8.lt (by omega))); (try replace i9 := i9.of_eq (ze.block _ i9.lt (by omega))); (try replace f6 := f6.of_eq (ze.block _ f6.lt (by omega))); (try replace r3 := r3.of_eq (ze.block _ r3.lt (by omega))); simp only [zn])
           refine wpList_nil ?_; refine zQ.normal ?_; refine ql.at ?_; try dsimp only
           rw [HSET.out] at row; gi_upto_region 23 with fail
           refine zA (by kernel_rfl) ?_; refine zx 3 ?_; refine wpList_nil ?_; refine ql.at ?_; try dsimp only
           gi_upto_region 19 with fail
           refine zA (by kernel_rfl) ?_; refine zx 3 ?_; refine wpList_nil ?_; refine ql.at ?_; try dsimp only
           gi_wp2
           go_roundw
           case rel => exact ⟨j + 1, k + 1, _, by omega, Lib.hid (by rw [HK.out, Nat.add_assoc]), by go_num, by go_num, Lib.hid rfl, B, p7, c8, i9, f6, r3, row⟩
           case measure => simp [intOf]; omega
          ·have q4 : decide (0 < n) = false := decide_eq_false hn0
           have q4' : decide (n > 0) = false := decide_eq_false hn0; rw [Vs, if_neg hn0] at hsame; have HSAME := Lib.hid (hsame rfl); clear hset hsame; gi_upto_region 21 with fail
           refine zA (by kernel_rfl) ?_; refine zx 2 ?_; refine wpList_nil ?_; refine ql.at ?_; try dsimp only
           gi_upto_region 23 with fail
           refine zA (by kernel_rfl) ?_; refine zx 3 ?_; refine wpList_nil ?_; refine ql.at ?_; try dsimp only
           gi_upto_region 19 with fail
           refine zA (by kernel_rfl) ?_; refine zx 3 ?_; refine wpList_nil ?_; refine ql.at ?_; try dsimp only
           gi_wp2
           go_roundw
           case rel => exact ⟨j + 1, k + 1, R, by omega, Lib.hid (by rw [HK.out, Nat.add_assoc]), by go_num, by go_num, HSAME, B, p7, c8, i9, f6, r3, row⟩
           case measure => simp [intOf]; omega
         ·have q3 : decide (c.x0 + (j : Int) < c.x1) = false := decide_eq_false (by omega)
          have HKN := Lib.hid (show k = (i + 1) * Wd from by rw [Nat.add_mul, Nat.one_mul, HK.out]; omega)
          gi_upto_region 18 with fail
          refine zA (by kernel_rfl) ?_; refine zx 4 ?_
          refine wpList_nil ?_; refine ql.at ?_; try dsimp only
          gi_upto_region 16 with fail
          refine zA (by kernel_rfl) ?_; refine zx 3 ?_; refine wpList_nil ?_; refine ql.at ?_; try dsimp only
          gi_wp2
          go_roundw
          case rel => exact ⟨i + 1, k, R, by omega, HKN, rfl, by go_num, HR, B, p7, c8, i9, f6, r3, row⟩
          case measure => simp [intOf]; omega
       ·have q2 : decide (c.y0 + (i : Int) < c.y1) = false := decide_eq_false (by omega)
        have hiH : i = (c.y1 - c.y0).toNat := by omega
        have hkA : k = areaN c := by rw [HK.out, HAW.out, HWD.out, hiH, Nat.mul_comm]
        have hRI : R = I := by rw [← HR.out, hkA, zbr, ← HI.out]
        subst hRI; clear hkA hiH HR; gi_upto_region 15 with fail
        refine zA (by kernel_rfl) ?_; refine zx 4 ?_
        refine wpList_nil ?_; refine ql.at ?_; try dsimp only
        gi_upto_region 24 with fail
        have r2 := R2W.out.of_eq (B.block _ l2); have rs1 := RS1W.out.below B; have hu := row.rs; rw [hIn] at hu; have hA2 := HA.out; gi_upto_region 24 with fail
        refine zA (by kernel_rfl) ?_; refine jG 2 ?_
        repeat (first | go_big_quiet_skip | (go_big_quiet_want; first | ((first | refine zo (t := 117) rfl _ _ _ rfl (fun w hw => uL (zD i9 w hw)) (by first | rfl | omega) ?_ | refine qB ?_ | refine qC ?_); simp only [zn]; go_big_quiet_on) | (go_big_quiet_op; go_big_quiet_on)))
        refine wpQuiet_nil ?_; refine qE (enters_of Tryz.func77 (by kernel_rfl) rfl) (c := zaE _ M R' E c _ R _ rs1 TM.out (by unfold maxLen; omega) hu (by rw [hIn]; unfold maxLen; omega) OKI.out HR'.out HEe.out) (h := ?_)
        rintro e wn ⟨a5, c5, rfl, rs5, za⟩; have zf := B.size; have zg := za.size; replace B := B.trans (za.mono B.size)
        (try replace r2 := r2.below za)
        (try replace f6 := f6.below za)
        (try replace r3 := r3.below za)
        clear rs1 hu row; refine ⟨_, rfl, ?_⟩; simp only [zn]; refine zx 3 ?_
        (refine zr (t := 64) rfl _ (jp _ _ rfl) (zV B ?_); clear B; intro b_t15 wn zb zd t15 za zf zk B; (try have zh := r2.lt); (try replace r2 := r2.below (za.mono zb)); (try have zh := i9.lt); (try have zh := f6.lt); (try replace f6 := f6.below (za.mono zb)); (try have zh := r3.lt); (try replace r3 := r3.below (za.mono zb)); (try have zh := rs5.lt); (try replace rs5 := rs5.below (za.mono zb)); simp only [zn])
        (refine zp (t := 64) rfl _ _ rfl _ rfl _ rfl t15 (by kernel_rfl) rfl (by simp [Value.oneCell']) (qt B (by omega) ?_); have t15o := t15; clear t15 B; intro wn t15 ze zf zg B; (try replace rs5 := rs5.chg t15o (by simp) ze); (try replace r2 := r2.of_eq (ze.block _ r2.lt (by omega))); (try replace f6 := f6.of_eq (ze.block _ f6.lt (by omega))); (try replace r3 := r3.of_eq (ze.block _ r3.lt (by omega))); simp only [zn])
        refine zx 1 ?_; refine wpList_nil ?_; refine ql.at ?_; try dsimp only
        have hrs5 : R'.length ≤ R'.length := Nat.le_refl _; have hws5 := B.size; by_cases hE0 : E = 0
        ·subst hE0
         gi_upto_region 25 with fail
         refine zA (by kernel_rfl) ?_; refine zx 2 ?_; refine wpList_nil ?_; refine ql.at ?_; try dsimp only
         gi_upto_region 27 with fail
         refine zA (by kernel_rfl) ?_; refine zx 1 ?_
         (refine zp (t := 64) rfl _ _ rfl _ rfl _ rfl r2 (by kernel_rfl) rfl (by simp [Value.oneCell']) ?_; intro wn ht ze zg; have r2o := r2; clear r2; have r2 := ht; clear ht; simp only [zn])
         refine wpList_nil ?_; refine ql.at ?_; try dsimp only
         gi_wp2
         have CH := (qN.of_below (b := b_r2) B).trans ze; refine ⟨KeepsOthers.chgB CH R2W.out, (uT.below B).trans (uT.exc ze.size (fun j h1 h2 => ze.block j h1 h2) r2o (by decide)), a5, c5, R', Lib.hid ?_, r2, rs5.chg r2o (by simp) ze, r3.of_eq (ze.block _ r3.lt (by omega)), ?_, ?_, f6.of_eq (ze.block _ f6.lt (by omega)), ?_, qN.below (BWW.out.trans (B.mono hws)) ze k2 (Nat.le_trans hws hws5)⟩
         ·rw [HS2.out, HR'.out, HEe.out]
         ·have h4 := R4W.out.of_eq (B.block _ l4)
          exact h4.of_eq (ze.block _ h4.lt (by omega))
         ·have h5 := E5W.out.of_eq (B.block _ l5)
          exact h5.of_eq (ze.block _ h5.lt (by omega))
         ·have h0 := LMW.out.below B
          exact h0.of_eq (ze.block _ h0.lt (by omega))
        ·have q7 : (E != 0) = true := by simpa using hE0
         gi_upto_region 25 with fail
         refine zA (by kernel_rfl) ?_; refine zx 2 ?_; refine wpList_nil ?_; refine ql.at ?_; try dsimp only
         have r4 := R4W.out.of_eq (B.block _ l4); have e5 := E5W.out.of_eq (B.block _ l5); have BE := BWW.out.trans (B.mono hws); have KE := KeepsOthers.below B; gi_upto_region 26 with fail
         refine zA (by kernel_rfl) ?_
         (refine zM rfl (.agg #[.slice none 0 0]) (by kernel_rfl) ?_; simp only [zn])
         refine zx 1 ?_
         (refine zp (t := 64) rfl _ _ rfl _ rfl _ rfl r4 (by kernel_rfl) rfl (by simp [Value.oneCell']) ?_; have HTO := r4; clear r4; intro wn ht ze zg; replace zg := Nat.le_of_eq zg.symm; replace BE := qN.below BE ze (by omega) BE.size; replace KE := KE.trans (KeepsOthers.chgB ze HTO); (try replace e5 := e5.of_eq (ze.block _ e5.lt (by omega))); have r4 := ht; clear ht; simp only [zn])
         (refine vU rfl _ _ rfl _ rfl _ rfl e5 ?_; have HTO := e5; clear e5; intro wn ht ze zg; replace zg := Nat.le_of_eq zg.symm; replace BE := qN.below BE ze (by omega) BE.size; replace KE := KE.trans (KeepsOthers.chgB ze HTO); (try replace r4 := r4.of_eq (ze.block _ r4.lt (by omega))); have e5 := ht; clear ht; simp only [zn])
         refine wpList_nil ?_; refine ql.at ?_; try dsimp only
         gi_wp2
         exact ⟨KE, rfl, E, Lib.hid ⟨by rw [HS2.out, HEe.out], hE0⟩, r4, e5, BE⟩
end Go.Proofs.YtepelndbbhdofaaGreatDoor
/- Contracts: Paint of package stroke, refused; Paint of its reference. -/
namespace Go.Proofs.YtepelndbbhdofaaGreatDoor
open Go.RowKit Go.Shelf Pl
set_option linter.unusedVariables false
set_option linter.unusedSimpArgs false
set_option maxRecDepth 20000
theorem YW (v vs : Value) (s : qv) (ls : List TA) (w : World) (h : RS v ls w) (rs : jF qD vs s.pts w) (hn : s.pts.length ≤ 17592186044416) (hv : qM s = false) : Calls Tryz.prog 30 #[.agg #[v], .agg (qw vs s)] w fun e w' => e = .returned (.tuple #[.agg #[.slice none 0 0], .int .i64 1]) ∧ Below w.heap.size w w' := by
 have B := Below.refl w.heap.size w
 have HV0 := Lib.hid hv
 obtain ⟨ad, cd, rfl, hcd⟩ := rs.len
 obtain ⟨a, c, rfl, hc⟩ := h.len
 clear hv h
 go_enter Tryz.func30, Tryz.ntmps30
 go_upto_region 0 with fail
 refine wp_region_lit ?_
 (refine zt (t := 64) rfl _ rfl _ rfl (zV B ?_); clear B; intro b_r2 wn zb zd r2 za zf zk B; (try have zh := rs.lt); (try replace rs := rs.below (za.mono zb)); simp only [zn])
 (refine zt (t := 30) rfl _ rfl _ rfl (zV B ?_); clear B; intro b_r3 wn zb zd r3 za zf zk B; (try have zh := r2.lt); (try have zh := rs.lt); (try replace rs := rs.below (za.mono zb)); simp only [zn])
 (refine zr (t := 64) rfl _ (jp _ _ rfl) (zV B ?_); clear B; intro b_r4 wn zb zd r4 za zf zk B; (try have zh := r2.lt); (try have zh := r3.lt); (try replace r3 := r3.below (za.mono zb)); (try have zh := rs.lt); (try replace rs := rs.below (za.mono zb)); simp only [zn])
 (refine zr (t := 53) rfl _ (uJ _ _ rfl) (zV B ?_); clear B; intro b_e5 wn zb zd e5 za zf zk B; (try have zh := r2.lt); (try have zh := r3.lt); (try replace r3 := r3.below (za.mono zb)); (try have zh := r4.lt); (try replace r4 := r4.below (za.mono zb)); (try have zh := rs.lt); (try replace rs := rs.below (za.mono zb)); simp only [zn])
 refine wpList_nil ?_
 have k5 : b_r4 < b_e5 := by have := r4.lt; omega
 go_upto_region 1 with fail
 refine wp_region_lit ?_
 refine zx 1 ?_
 refine qE (enters_of Tryz.func16 (by kernel_rfl) rfl) (c := jh _ s false _ rs hn HV0.out) (h := ?_)
 rintro e wn ⟨rfl, za⟩
 have zf := B.size
 have zg := za.size
 replace B := B.trans (za.mono B.size)
 (try replace r4 := r4.below za)
 (try replace e5 := e5.below za)
 refine ⟨_, rfl, ?_⟩
 simp only [zn]
 refine zx 1 ?_
 refine wpList_nil ?_
 go_upto_region 2 with fail
 refine wp_region_lit ?_
 (refine zM rfl (.agg #[.slice none 0 0]) (by kernel_rfl) ?_; simp only [zn])
 (refine zp (t := 64) rfl _ _ rfl _ rfl _ rfl r4 (by kernel_rfl) rfl (by simp [Value.oneCell']) (qt B (by omega) ?_); clear r4 B; intro wn r4 ze zf zg B; (try replace e5 := e5.of_eq (ze.block _ e5.lt (by omega))); simp only [zn])
 (refine vU rfl _ _ rfl _ rfl _ rfl e5 (qt B (by omega) ?_); clear e5 B; intro wn e5 ze zf zg B; (try replace r4 := r4.of_eq (ze.block _ r4.lt (by omega))); simp only [zn])
 refine wpList_nil ?_
 first | (refine bodyPost_ret (xj (t := 64) (u := 53) rfl _ _ b_r4 b_e5 rfl rfl r4 (jP e5) Tryz.isAgg64 (by kernel_rfl)) rfl ?_) | (go_step; refine bodyPost_ret (xj (t := 64) (u := 53) rfl _ _ b_r4 b_e5 rfl rfl r4 (jP e5) Tryz.isAgg64 (by kernel_rfl)) rfl ?_) | (go_step; go_step; refine bodyPost_ret (xj (t := 64) (u := 53) rfl _ _ b_r4 b_e5 rfl rfl r4 (jP e5) Tryz.isAgg64 (by kernel_rfl)) rfl ?_) | (go_step; go_step; go_step; refine bodyPost_ret (xj (t := 64) (u := 53) rfl _ _ b_r4 b_e5 rfl rfl r4 (jP e5) Tryz.isAgg64 (by kernel_rfl)) rfl ?_) | (go_step; go_step; go_step; go_step; refine bodyPost_ret (xj (t := 64) (u := 53) rfl _ _ b_r4 b_e5 rfl rfl r4 (jP e5) Tryz.isAgg64 (by kernel_rfl)) rfl ?_) | (go_step; go_step; go_step; go_step; go_step; refine bodyPost_ret (xj (t := 64) (u := 53) rfl _ _ b_r4 b_e5 rfl rfl r4 (jP e5) Tryz.isAgg64 (by kernel_rfl)) rfl ?_)
 exact ⟨rfl, B⟩
/-- Paint of package stroke. -/
theorem zaB (v vs : Value) (s : qv) (ls ks : List TA) (E : Int) (w : World) (lm : xz w) (h : RS v ls w) (tk : jc ls) (hn : ls.length ≤ maxLen) (rs : jF qD vs s.pts w) (hn2 : s.pts.length ≤ 17592186044416) (hcol : s.col.ok) (e : xh s ls = (ks, E)) : Calls Tryz.prog 30 #[.agg #[v], .agg (qw vs s)] w fun e w' => ∃ a cp, e = .returned (.tuple #[.agg #[.slice a ks.length cp], .int .i64 E]) ∧ RS (.slice a ks.length cp) ks w' ∧ Below w.heap.size w w' := by
 cases hv : qM s with
 | true =>
  have := YX v vs s ls w lm h tk hn rs hv hcol; rw [e] at this; exact this
 | false =>
  have e1 : xh s ls = ([], 1) := if_neg (by rw [hv]; simp)
  rw [e1] at e
  injection e with e1 e2
  subst e1 e2; exact (YW v vs s ls w h rs hn2 hv).mono fun e w' ⟨h1, h2⟩ => ⟨none, 0, h1, RS.nil _, h2⟩
/-! ### The reference -/
/-- The pixels so far. -/
def zg8 (c : Rc) (F : Int → Int → Px) (k : Nat) : List Px := (List.range k).map fun j => F (vx c j) (vy c j)
end Go.Proofs.YtepelndbbhdofaaGreatDoor
/- The values of the sanity check of chapter 14's laws; slice literals; line. -/
namespace Go.Proofs.YtepelndbbhdofaaGreatDoor
open Go.RowKit Go.Shelf Pl Sha
set_option linter.unusedVariables false
set_option linter.unusedSimpArgs false
set_option maxRecDepth 20000
section
variable {α : Type} {k : Nat} {T ST : TypeId} {E : ZQ α k T ST}
theorem Wn (ls : List α) (cs : Array Value) (hs : cs.size = ls.length * k) : Instr.fill (fun i => some (i * k, k)) cs (((ls.map fun x => Value.agg (E.enc x)).zipIdx 0).map fun y => (y.2, y.1)) = some (jH E ls).toArray := by
 obtain ⟨r, hr1, hr2, hr3⟩ := Great.fill_dense E.pos (ls.map fun x => Value.agg (E.enc x)) 0 cs (fun v hv => by obtain ⟨x, _, rfl⟩ := List.mem_map.1 hv; simp only [Value.cells, E.size]) (by rw [List.length_map, hs, Nat.zero_add]; exact Nat.le_refl _)
 rw [hr1]
 congr 1
 apply Array.ext_getElem?
 intro j
 have hr : (jH E ls).toArray[j]? = (jH E ls)[j]? := by rw [List.getElem?_toArray]
 rw [hr3 j, List.length_map, hr, Nat.zero_add]
 by_cases h : j < ls.length * k
 ·obtain ⟨h1, h2, h3⟩ := wY E.pos h
  have hx : ls[j / k]? = some ls[j / k] := List.getElem?_eq_getElem h1; have h4 := uI E ls (j / k) _ hx (j % k) h2; rw [← h3] at h4; rw [if_pos ⟨by rw [Nat.zero_mul]; omega, h⟩, h4, Nat.sub_zero, List.getElem?_map, hx]
  simp only [Option.map_some, Option.bind_some, Value.cells]
 ·rw [if_neg (fun h' => h h'.2), Array.getElem?_eq_none (by rw [hs]; exact Nat.le_of_not_lt h), List.getElem?_eq_none (by rw [jz]; exact Nat.le_of_not_lt h)]
variable {ops : Array Oper} {rest : List Oper} {o : Oper} {a : Act} {w : World} {Q : Exit → Act → World → Prop}
theorem zbM {K : Act → World → Prop} (n : Nat) (ps : Array (Nat × Operand)) (ho : o.op = .buildSlice ST n ps) (ls : List α) (hl : ls.length = n) (hp : (ps.map fun (i, x) => (i, a.eval x)).toList = ((ls.map fun x => Value.agg (E.enc x)).zipIdx 0).map fun y => (y.2, y.1)) (hn : 0 < n) (hk : n * k ≤ 1000)
  (h : ∀ b w', w.heap.size ≤ b → b ≤ w.heap.size → ji E w' b ls → Below b w w' → w'.heap.size = b + 1 → K (a.put o.dst (.slice (some ⟨b, 0, none⟩) n n)) w') : o.wp Tryz.prog a w K Q := by
 obtain ⟨i, z, hi, hz, zf, hby, hzc⟩ := E.facts
 have hp0 := Nat.mul_pos hn E.pos
 refine wp_buildSlice ST T n ps ho (jH E ls).toArray i z E.und hi hz (by rw [zf]; omega) (by rw [zf]; omega) ?_ (h _ _ (Nat.le_refl _) (Nat.le_refl _) (by unfold ji zF; rw [zI, if_pos rfl]) ((Below.refl _ _).alloc (Nat.le_refl _) _) (World.size_alloc _ _))
 rw [zf, hp]
 exact Wn ls _ (by rw [hl]; simp)
theorem Zx (hw : Region.wanted o (yielded ops a.tmps) = true) (n : Nat) (ps : Array (Nat × Operand)) (ho : o.op = .buildSlice ST n ps) (ls : List α) (hl : ls.length = n) (hp : (ps.map fun (i, x) => (i, a.eval x)).toList = ((ls.map fun x => Value.agg (E.enc x)).zipIdx 0).map fun y => (y.2, y.1)) (hn : 0 < n) (hk : n * k ≤ 1000)
  (h : ∀ b w', w.heap.size ≤ b → b ≤ w.heap.size → ji E w' b ls → Below b w w' → w'.heap.size = b + 1 → wpList Tryz.prog ops Q rest (a.put o.dst (.slice (some ⟨b, 0, none⟩) n n)) w') : wpList Tryz.prog ops Q (o :: rest) a w := by
 unfold wpList
 rw [if_pos hw]
 exact .inl (zbM n ps ho ls hl hp hn hk h)
end
/-! ### The example -/
def qF : qv := ⟨[⟨0, 0, 255⟩, ⟨100, 0, 255⟩, ⟨100, 30, 255⟩], 16, 40, ⟨200, 0, 0, 255⟩, false, 10⟩
def vp : List Db := [⟨10, 0, 16⟩, ⟨50, 0, 16⟩, ⟨90, 0, 16⟩]
theorem ln1 : qM qF = true := by decide +kernel
theorem ln2 : yd qF = vp := by decide +kernel
theorem ln3 : (uh qF 1).pha = 30 := by decide +kernel
theorem ln4 : yd (uh qF 1) = [] := by decide +kernel
theorem ln5 : vr ⟨8, 8, 8⟩ 0 0 = 191 := by decide +kernel
theorem ln6 : zdT qF = ⟨-1, -1, 7, 2⟩ := by decide +kernel
theorem ln7 : qM zSt = false := by decide +kernel
theorem ln8 : wI [] = (zSt, 10) := Qr (by decide)
theorem kA : qF.col.ok := by unfold Px.ok qF; simp
theorem ln9 : wI (xS qF) = (qF, 0) := KC ((jj _).1 ln1) kA
def zaY : Rc := ⟨-1, -1, 1, 1⟩
theorem Kk : ∀ d ∈ vp, VE d ∧ zd6 zaY d := fun d hd => by
 have hc : d = ⟨10, 0, 16⟩ ∨ d = ⟨50, 0, 16⟩ ∨ d = ⟨90, 0, 16⟩ := by simpa [vp] using hd
 rcases hc with rfl | rfl | rfl
 ·refine ⟨by unfold VE; decide, fun _ x y h => ?_⟩
  have e : wB (ZC ⟨10, 0, 16⟩) = ⟨-1, -1, 1, 1⟩ := by decide +kernel
  rw [e] at h; exact h
 ·refine ⟨by unfold VE; decide, fun _ x y h => ?_⟩
  have e : wB (ZC ⟨50, 0, 16⟩) = ⟨0, -1, 1, 1⟩ := by decide +kernel
  rw [e] at h; rw [jx] at h ⊢; unfold zaY; simp only at h ⊢; omega
 ·refine ⟨by unfold VE; decide, fun _ x y h => ?_⟩
  have e : wB (ZC ⟨90, 0, 16⟩) = ⟨0, -1, 1, 1⟩ := by decide +kernel
  rw [e] at h; rw [jx] at h ⊢; unfold zaY; simp only at h ⊢; omega
theorem Wf : j0 zaY := by unfold zaY; refine ⟨?_, ?_, ?_, ?_, ?_, ?_, ?_, ?_⟩ <;> (simp only; omega)
theorem zbx : (xK qF vp []).2 = 0 := (XS (s := qF) Wf (by decide) vp [] (fun d h => (Kk d h).1) (fun d h => (Kk d h).2) xl (fun e h => by cases h)).1
theorem Wo : qX [] = [] := yT xl
theorem zdk : jY qF = vp := by
 have := ln2
 unfold yd at this
 rw [ln1] at this
 exact this
theorem XX : xh qF [] = xK qF vp [] := by
 unfold xh
 rw [if_pos ln1, zdk, Wo]
theorem zgf : (xh qF []).2 = 0 := by rw [XX]; exact zbx
theorem zgg : (xJ (xh qF []).1 0 0).a > 0 := by
 rw [XX, XT kA 0 0 vp [] (fun d h => (Kk d h).1) xl jc.nil zbx]
 decide +kernel
/- line, sanity of chapter 14's laws. -/
set_option maxHeartbeats 1000000 in
theorem yR (w : World) : Calls Tryz.prog 48 #[] w fun e w' => ∃ b, e = .returned (.agg (qw (.slice (some ⟨b, 0, none⟩) 3 3) qF)) ∧ jF qD (.slice (some ⟨b, 0, none⟩) 3 3) qF.pts w' ∧ Below w.heap.size w w' := by
 have B := Below.refl w.heap.size w
 go_enter Tryz.func48, Tryz.ntmps48
 go_upto_region 0 with fail
 refine wp_region_lit ?_
 (refine zr (t := 30) rfl _ (zG _ _ rfl) (zV B ?_); clear B; intro b_r0 wn zb zd r0 za zf zk B; simp only [zn])
 refine wpList_nil ?_
 have hr0 := r0.lt
 go_upto_region 1 with fail
 refine wp_region_lit ?_
 (refine zM rfl (.agg #[.int .i64 0, .int .i64 0, .int .i64 255]) (by first | rfl | kernel_rfl | simp [go_sem, Act.eval]) ?_; simp only [zn])
 (refine zM rfl (.agg #[.int .i64 100, .int .i64 0, .int .i64 255]) (by first | rfl | kernel_rfl | simp [go_sem, Act.eval]) ?_; simp only [zn])
 (refine zM rfl (.agg #[.int .i64 100, .int .i64 30, .int .i64 255]) (by first | rfl | kernel_rfl | simp [go_sem, Act.eval]) ?_; simp only [zn])
 (refine Zx (E := qD) (by first | rfl | simp [Region.wanted, yielded]) 3 _ rfl qF.pts rfl (by simp only [Act.eval, qI]; rfl) (by omega) (by omega) (zV B ?_); clear B; intro b_row wn zb zd row za zf zk B; (try have zh := r0.lt); (try replace r0 := r0.below (za.mono zb)); simp only [zn])
 (refine zM rfl (.agg #[.int .u8 200, .int .u8 0, .int .u8 0, .int .u8 255]) (by first | rfl | kernel_rfl | simp [go_sem, Act.eval]) ?_; simp only [zn])
 (refine zM rfl (.agg (qw (.slice (some ⟨b_row, 0, none⟩) 3 3) qF)) (by first | rfl | kernel_rfl | simp [go_sem, Act.eval]) ?_; simp only [zn])
 (refine zp (t := 30) rfl _ _ rfl _ rfl _ rfl r0 (by kernel_rfl) rfl (by simp [qw, Value.oneCell']) (qt B (by omega) ?_); clear r0 B; intro wn r0 ze zf zg B; replace row := row.of_eq (ze.block _ row.lt (by omega)); simp only [zn])
 refine wpList_nil ?_
 first | (refine bodyPost_ret (zv (t := 30) rfl _ _ (b_r0) rfl r0 Tryz.isAgg30 (by kernel_rfl)) rfl ?_) | (go_step; refine bodyPost_ret (zv (t := 30) rfl _ _ (b_r0) rfl r0 Tryz.isAgg30 (by kernel_rfl)) rfl ?_) | (go_step; go_step; refine bodyPost_ret (zv (t := 30) rfl _ _ (b_r0) rfl r0 Tryz.isAgg30 (by kernel_rfl)) rfl ?_) | (go_step; go_step; go_step; refine bodyPost_ret (zv (t := 30) rfl _ _ (b_r0) rfl r0 Tryz.isAgg30 (by kernel_rfl)) rfl ?_) | (go_step; go_step; go_step; go_step; refine bodyPost_ret (zv (t := 30) rfl _ _ (b_r0) rfl r0 Tryz.isAgg30 (by kernel_rfl)) rfl ?_) | (go_step; go_step; go_step; go_step; go_step; refine bodyPost_ret (zv (t := 30) rfl _ _ (b_r0) rfl r0 Tryz.isAgg30 (by kernel_rfl)) rfl ?_)
 exact ⟨_, rfl, row.rs, B⟩
/-- Split of the example. -/
theorem zby (v : Value) (w : World) (rs : jF qD v qF.pts w) : Calls Tryz.prog 26 #[.agg (qw v qF), .int .i64 1] w fun e w' => ∃ aa na ca ab nb cb, e = .returned (.tuple #[.agg (qw (.slice aa na ca) (u7 qF 1)), .agg (qw (.slice ab nb cb) (uh qF 1)), .int .i64 0]) ∧ jF qD (.slice ab nb cb) (uh qF 1).pts w' ∧ Below w.heap.size w w' :=
 (ZT v qF 1 w rs ln1 (by omega) (by decide)).mono fun e w' ⟨va, vb, h1, h2, h3, h4⟩ => by
  obtain ⟨aa, ca, rfl, _⟩ := h2.len; obtain ⟨ab, cb, rfl, _⟩ := h3.len; exact ⟨_, _, _, _, _, _, h1, h3.rs, h4⟩
def lnK : List TA := (xh qF []).1
theorem lnP : xh qF [] = (lnK, 0) := Prod.ext rfl zgf
def lnY : List UInt8 := xS qF
theorem zdj : lnY.length ≤ 100000000 := by
 have e : xS qF = qV qF := by unfold xS; rw [ln1]; rfl
 show (xS qF).length ≤ _
 rw [e, Z6]
 decide
theorem zdn (w : World) : Calls Tryz.prog 34 #[.string (xT lnY)] w fun e w' => ∃ a n c, e = .returned (.tuple #[.agg (qw (.slice a n c) qF), .int .i64 0]) ∧ jF qD (.slice a n c) qF.pts w' ∧ Below w.heap.size w w' :=
 (K0 lnY qF 0 w zdj ln9).mono fun e w' ⟨v, h1, h2, h3⟩ => by
  obtain ⟨a, c, rfl, _⟩ := h2.len; exact ⟨_, _, _, h1, h2, h3⟩
theorem zdm (w : World) : Calls Tryz.prog 34 #[.string { data := #[] }] w fun e w' => ∃ a n c, e = .returned (.tuple #[.agg (qw (.slice a n c) zSt), .int .i64 10]) ∧ Below w.heap.size w w' :=
 (K0 [] zSt 10 w (by simp) ln8).mono fun e w' ⟨v, h1, h2, h3⟩ => by
  obtain ⟨a, c, rfl, _⟩ := h2.len; exact ⟨_, _, _, h1, h3⟩
theorem Qf : qF.pts.length ≤ 17592186044416 := by decide
theorem zdl : (uh qF 1).pts.length ≤ 17592186044416 := by decide
theorem zdi : lnK.length ≤ maxLen := by
 have := X7 (s := qF) kA (ls := []) jc.nil
 have := (xF.1 this.1).1
 unfold lnK maxLen
 omega
/-! ### Rectangles compared -/
theorem XM (d : Nat) (a b : Rc) (w : World) : (Op.equalIn (d + 2) 38 (.agg (jV a)) (.agg (jV b))).run Tryz.prog w = .ok (decide (a = b)) w := by
 obtain ⟨x, y, z, u⟩ := a
 obtain ⟨x', y', z', u'⟩ := b
 have h : (Op.equalIn (d + 2) 38 (.agg #[.int .i64 x, .int .i64 y, .int .i64 z, .int .i64 u]) (.agg #[.int .i64 x', .int .i64 y', .int .i64 z', .int .i64 u'])).run Tryz.prog w = .ok (x == x' && (y == y' && (z == z' && u == u'))) w := by
  by_cases h1 : x = x' <;> by_cases h2 : y = y' <;> by_cases h3 : z = z' <;> by_cases h4 : u = u' <;> simp [go_sem, h1, h2, h3, h4]
 refine h.trans ?_
 congr 1
 rw [Bool.eq_iff_iff]
 simp
theorem zc3 (a b : Rc) (w : World) : (binOp .eql 38 (.agg (jV a)) (.agg (jV b))).run Tryz.prog w = .ok (.bool (decide (a = b))) w := by
 have h := run_eql_struct (P := Tryz.prog) w 38 (jV a) (jV b)
 rw [h, XM 9998 a b w]; rfl
theorem jy {o : Oper} {a : Act} {C : World → Prop} {K : Act → Prop} {p q : Operand} {t2 : TypeId} (h : o.op = .binOp .eql 38 p q t2) (x y : Rc) (hx : a.eval p = .agg (jV x)) (hy : a.eval q = .agg (jV y)) (b : Bool) (hb : decide (x = y) = b) (hk : K (a.put o.dst (.bool b))) : o.quiet Tryz.prog a C K :=
 ⟨_, fun w hw => by
  have hg : (eqGuard .eql 38 p q (.agg (jV x)) (.agg (jV y))).run Tryz.prog w = .ok () w := run_eqGuard_agg w _ 38 p q _ _ (by kernel_rfl); unfold Oper.quietAt execOp; simp only [h, hx, hy, hg, zc3, hb, Sem.run_bind, Sem.run_pure, Result.andThen_ok]; exact ⟨rfl, rfl⟩, hk⟩
def zfd : jo := ⟨Option Addr × Nat, ⟨(none, 0)⟩, fun p => .slice p.1 0 p.2, fun _ _ => True, fun _ _ _ _ h => h⟩
def Q6 : jo := ⟨Nat, ⟨0⟩, fun b => .agg (qw (.slice (some ⟨b, 0, none⟩) 3 3) qF), fun b w => jF qD (.slice (some ⟨b, 0, none⟩) 3 3) qF.pts w, fun _ _ _ hb h => h.below hb⟩
set_option maxHeartbeats 4000000 in
theorem zb7 (w : World) (lm : xz w) : Calls Tryz.prog 13 #[] w fun e w' => e = .returned (.bool true) ∧ Below w.heap.size w w' := by
 have B := Below.refl w.heap.size w
 have q30 : ((uh qF 1).pha == 30) = true := by rw [ln3]; rfl
 obtain ⟨⟨pr, pg, pb, pa⟩, hpx⟩ : ∃ p, xJ lnK 0 0 = p := ⟨_, rfl⟩
 have hpa : pa > 0 := by have := zgg; rw [show (xh qF []).1 = lnK from rfl, hpx] at this; exact this
 have HPX := Lib.hid hpx
 clear hpx
 have qa : decide (pa > 0) = true := decide_eq_true hpa
 have qa' : decide (0 < pa) = true := decide_eq_true hpa
 have GETC : Hid (∀ v w, RS v lnK w → Calls Tryz.prog 31 #[.agg #[v], .int .i64 0, .int .i64 0] w fun e w' => e = .returned (.agg #[.int .u8 pr, .int .u8 pg, .int .u8 pb, .int .u8 pa]) ∧ Below w.heap.size w w') := Lib.hid fun v w h => by
  have := zd9 v lnK 0 0 w h zdi (Jl (by omega) (by omega)) (Jl (by omega) (by omega)); rw [HPX.out] at this; exact this
 go_enter Tryz.func13, Tryz.ntmps13
 go_upto_region 0 with fail
 refine wp_region_lit ?_
 refine zx 1 ?_
 refine wpList_nil ?_
 go_upto_region 1 with fail
 refine wp_region_lit ?_
 refine qE (enters_of Tryz.func48 (by kernel_rfl) rfl) (c := yR _) (h := ?_)
 rintro e wn ⟨bl, rfl, rl, za⟩
 have zf := B.size
 have zg := za.size
 replace B := B.trans (za.mono B.size)
 (try replace lm := lm.below za)
 (try replace rl := rl.below za)
 refine ⟨_, rfl, ?_⟩
 simp only [zn]
 refine qE (enters_of Tryz.func19 (by kernel_rfl) rfl) (c := kn _ qF vp _ rl Qf ln2) (h := ?_)
 rintro e wn ⟨a1, c1, rfl, od, za⟩
 have zf := B.size
 have zg := za.size
 replace B := B.trans (za.mono B.size)
 (try replace lm := lm.below za)
 (try replace rl := rl.below za)
 have rd := od.rs
 clear od rl
 refine ⟨_, rfl, ?_⟩
 simp only [zn]
 refine zx 1 ?_
 refine wpList_nil ?_
 go_upto_region 2 with fail
 refine wp_region_lit ?_
 (refine zM rfl (.agg #[.int .i64 10, .int .i64 0, .int .i64 16]) (by first | rfl | kernel_rfl | simp [go_sem, Act.eval]) ?_; simp only [zn])
 (refine zM rfl (.agg #[.int .i64 50, .int .i64 0, .int .i64 16]) (by first | rfl | kernel_rfl | simp [go_sem, Act.eval]) ?_; simp only [zn])
 (refine zM rfl (.agg #[.int .i64 90, .int .i64 0, .int .i64 16]) (by first | rfl | kernel_rfl | simp [go_sem, Act.eval]) ?_; simp only [zn])
 (refine Zx (E := kx) (by first | rfl | simp [Region.wanted, yielded]) 3 _ rfl vp rfl (by simp only [Act.eval, qI]; rfl) (by omega) (by omega) (zV B ?_); clear B; intro b_wr wn zb zd wr za zf zk B; (try have zh := lm.lt); (try replace lm := lm.below (za.mono zb)); (try have zh := rd.lt); (try replace rd := rd.below (za.mono zb)); simp only [zn])
 refine zx 1 ?_
 refine wpList_nil ?_
 go_upto_region 3 with fail
 refine wp_region_lit ?_
 refine qE (enters_of Tryz.func48 (by kernel_rfl) rfl) (c := yR _) (h := ?_)
 rintro e wn ⟨bl, rfl, rl, za⟩
 have zf := B.size
 have zg := za.size
 replace B := B.trans (za.mono B.size)
 (try replace lm := lm.below za)
 (try replace rd := rd.below za)
 (try replace wr := wr.below za)
 (try replace rl := rl.below za)
 refine ⟨_, rfl, ?_⟩
 simp only [zn]
 refine qE (enters_of Tryz.func26 (by kernel_rfl) rfl) (c := zby _ _ rl) (h := ?_)
 rintro e wn ⟨aa, na, ca, ab, nb, cb, rfl, rb, za⟩
 have zf := B.size
 have zg := za.size
 replace B := B.trans (za.mono B.size)
 (try replace lm := lm.below za)
 (try replace rd := rd.below za)
 (try replace wr := wr.below za)
 (try replace rl := rl.below za)
 clear rl
 refine ⟨_, rfl, ?_⟩
 simp only [zn]
 refine zx 4 ?_
 obtain ⟨wK, hK⟩ : ∃ z, z = wn := ⟨_, rfl⟩
 subst hK
 have BG := B
 have hwsK := BG.size
 have B := Below.refl wK.heap.size wK
 have H_lm := Lib.hid lm
 have H_rd := Lib.hid rd
 have H_wr := Lib.hid wr
 have H_rb := Lib.hid rb
 (refine zr (t := 30) rfl _ (zG _ _ rfl) (zV B ?_); clear B; intro b_r3 wn zb zd r3 za zf zk B; (try have zh := lm.lt); (try replace lm := lm.below (za.mono zb)); (try have zh := rd.lt); (try replace rd := rd.below (za.mono zb)); (try have zh := wr.lt); (try replace wr := wr.below (za.mono zb)); (try have zh := rb.lt); (try replace rb := rb.below (za.mono zb)); simp only [zn])
 (have _ := r3.lt; refine zr (t := 30) rfl _ (zG _ _ rfl) (zV B ?_); clear B; intro b_r4 wn zb zd r4 za zf zk B; (try have zh := lm.lt); (try replace lm := lm.below (za.mono zb)); (try have zh := rd.lt); (try replace rd := rd.below (za.mono zb)); (try have zh := wr.lt); (try replace wr := wr.below (za.mono zb)); (try have zh := rb.lt); (try replace rb := rb.below (za.mono zb)); (try have zh := r3.lt); (try replace r3 := r3.below (za.mono zb)); simp only [zn])
 (refine zp (t := 30) rfl _ _ rfl _ rfl _ rfl r3 (by kernel_rfl) rfl (by simp [qw, Value.oneCell']) (qt B (by omega) ?_); clear r3 B; intro wn r3 ze zf zg B; (try replace r4 := r4.of_eq (ze.block _ r4.lt (by omega))); simp only [zn])
 (refine zp (t := 30) rfl _ _ rfl _ rfl _ rfl r4 (by kernel_rfl) rfl (by simp [qw, Value.oneCell']) (qt B (by omega) ?_); clear r4 B; intro wn r4 ze zf zg B; (try replace r3 := r3.of_eq (ze.block _ r3.lt (by omega))); simp only [zn])
 refine zx 1 ?_
 refine wpList_nil ?_
 clear lm
 clear rd
 clear wr
 clear rb
 have lm := by first | exact H_lm.out.below B | exact H_lm.out.of_eq (B.block _ H_lm.out.lt)
 have rd := by first | exact H_rd.out.below B | exact H_rd.out.of_eq (B.block _ H_rd.out.lt)
 have wr := by first | exact H_wr.out.below B | exact H_wr.out.of_eq (B.block _ H_wr.out.lt)
 have rb := by first | exact H_rb.out.below B | exact H_rb.out.of_eq (B.block _ H_rb.out.lt)
 clear H_lm
 clear H_rd
 clear H_wr
 clear H_rb
 have B0 := BG.trans (B.mono hwsK)
 clear B BG hwsK
 have B := B0
 clear B0
 clear r3
 go_upto_region 4 with fail
 refine wp_region_lit ?_
 (refine zM rfl (.agg #[.slice none 0 0]) (by first | rfl | kernel_rfl | simp [go_sem, Act.eval]) ?_; simp only [zn])
 refine qE (enters_of Tryz.func48 (by kernel_rfl) rfl) (c := yR _) (h := ?_)
 rintro e wn ⟨bl, rfl, rl, za⟩
 have zf := B.size
 have zg := za.size
 replace B := B.trans (za.mono B.size)
 (try replace lm := lm.below za)
 (try replace rd := rd.below za)
 (try replace wr := wr.below za)
 (try replace rb := rb.below za)
 (try replace r4 := r4.below za)
 (try replace rl := rl.below za)
 refine ⟨_, rfl, ?_⟩
 simp only [zn]
 refine qE (enters_of Tryz.func30 (by kernel_rfl) rfl) (c := zaB _ _ qF [] lnK 0 _ lm (RS.nil _) jc.nil (Nat.zero_le _) rl Qf kA lnP) (h := ?_)
 rintro e wn ⟨ap, cp, rfl, rk, za⟩
 have zf := B.size
 have zg := za.size
 replace B := B.trans (za.mono B.size)
 (try replace lm := lm.below za)
 (try replace rd := rd.below za)
 (try replace wr := wr.below za)
 (try replace rb := rb.below za)
 (try replace r4 := r4.below za)
 (try replace rl := rl.below za)
 clear rl
 refine ⟨_, rfl, ?_⟩
 simp only [zn]
 refine zx 3 ?_
 obtain ⟨wK, hK⟩ : ∃ z, z = wn := ⟨_, rfl⟩
 subst hK
 have BG := B
 have hwsK := BG.size
 have B := Below.refl wK.heap.size wK
 have H_lm := Lib.hid lm
 have H_rd := Lib.hid rd
 have H_wr := Lib.hid wr
 have H_rb := Lib.hid rb
 have H_r4 := Lib.hid r4
 have H_rk := Lib.hid rk
 (refine zr (t := 64) rfl _ (jp _ _ rfl) (zV B ?_); clear B; intro b_r6 wn zb zd r6 za zf zk B; (try have zh := lm.lt); (try replace lm := lm.below (za.mono zb)); (try have zh := rd.lt); (try replace rd := rd.below (za.mono zb)); (try have zh := wr.lt); (try replace wr := wr.below (za.mono zb)); (try have zh := rb.lt); (try replace rb := rb.below (za.mono zb)); (try have zh := r4.lt); (try replace r4 := r4.below (za.mono zb)); (try have zh := rk.lt); (try replace rk := rk.below (za.mono zb)); simp only [zn])
 (refine zp (t := 64) rfl _ _ rfl _ rfl _ rfl r6 (by kernel_rfl) rfl (by simp [Value.oneCell']) (qt B (by omega) ?_); clear r6 B; intro wn r6 ze zf zg B; simp only [zn])
 refine zx 1 ?_
 refine wpList_nil ?_
 clear lm
 clear rd
 clear wr
 clear rb
 clear r4
 clear rk
 have lm := by first | exact H_lm.out.below B | exact H_lm.out.of_eq (B.block _ H_lm.out.lt)
 have rd := by first | exact H_rd.out.below B | exact H_rd.out.of_eq (B.block _ H_rd.out.lt)
 have wr := by first | exact H_wr.out.below B | exact H_wr.out.of_eq (B.block _ H_wr.out.lt)
 have rb := by first | exact H_rb.out.below B | exact H_rb.out.of_eq (B.block _ H_rb.out.lt)
 have r4 := by first | exact H_r4.out.below B | exact H_r4.out.of_eq (B.block _ H_r4.out.lt)
 have rk := by first | exact H_rk.out.below B | exact H_rk.out.of_eq (B.block _ H_rk.out.lt)
 clear H_lm
 clear H_rd
 clear H_wr
 clear H_rb
 clear H_r4
 clear H_rk
 have B0 := BG.trans (B.mono hwsK)
 clear B BG hwsK
 have B := B0
 clear B0
 go_upto_region 5 with fail
 refine wp_region_lit ?_
 refine qE (enters_of Tryz.func48 (by kernel_rfl) rfl) (c := yR _) (h := ?_)
 rintro e wn ⟨bl, rfl, rl, za⟩
 have zf := B.size
 have zg := za.size
 replace B := B.trans (za.mono B.size)
 (try replace lm := lm.below za)
 (try replace rd := rd.below za)
 (try replace wr := wr.below za)
 (try replace rb := rb.below za)
 (try replace r4 := r4.below za)
 (try replace rk := rk.below za)
 (try replace r6 := r6.below za)
 (try replace rl := rl.below za)
 refine ⟨_, rfl, ?_⟩
 simp only [zn]
 refine qE (enters_of Tryz.func33 (by kernel_rfl) rfl) (c := ZR _ qF lnY _ rl Qf kA rfl) (h := ?_)
 rintro e wn ⟨rfl, za⟩
 have zf := B.size
 have zg := za.size
 replace B := B.trans (za.mono B.size)
 (try replace lm := lm.below za)
 (try replace rd := rd.below za)
 (try replace wr := wr.below za)
 (try replace rb := rb.below za)
 (try replace r4 := r4.below za)
 (try replace rk := rk.below za)
 (try replace r6 := r6.below za)
 (try replace rl := rl.below za)
 clear rl
 refine ⟨_, rfl, ?_⟩
 simp only [zn]
 refine qE (enters_of Tryz.func34 (by kernel_rfl) rfl) (c := zdn _) (h := ?_)
 rintro e wn ⟨a8, n8, c8, rfl, r8s, za⟩
 have zf := B.size
 have zg := za.size
 replace B := B.trans (za.mono B.size)
 (try replace lm := lm.below za)
 (try replace rd := rd.below za)
 (try replace wr := wr.below za)
 (try replace rb := rb.below za)
 (try replace r4 := r4.below za)
 (try replace rk := rk.below za)
 (try replace r6 := r6.below za)
 refine ⟨_, rfl, ?_⟩
 simp only [zn]
 refine zx 3 ?_
 obtain ⟨wK, hK⟩ : ∃ z, z = wn := ⟨_, rfl⟩
 subst hK
 have BG := B
 have hwsK := BG.size
 have B := Below.refl wK.heap.size wK
 have H_lm := Lib.hid lm
 have H_rd := Lib.hid rd
 have H_wr := Lib.hid wr
 have H_rb := Lib.hid rb
 have H_r4 := Lib.hid r4
 have H_rk := Lib.hid rk
 have H_r6 := Lib.hid r6
 have H_r8s := Lib.hid r8s
 (refine zr (t := 30) rfl _ (zG _ _ rfl) (zV B ?_); clear B; intro b_r8 wn zb zd r8 za zf zk B; (try have zh := lm.lt); (try replace lm := lm.below (za.mono zb)); (try have zh := rd.lt); (try replace rd := rd.below (za.mono zb)); (try have zh := wr.lt); (try replace wr := wr.below (za.mono zb)); (try have zh := rb.lt); (try replace rb := rb.below (za.mono zb)); (try have zh := r4.lt); (try replace r4 := r4.below (za.mono zb)); (try have zh := rk.lt); (try replace rk := rk.below (za.mono zb)); (try have zh := r6.lt); (try replace r6 := r6.below (za.mono zb)); (try have zh := r8s.lt); (try replace r8s := r8s.below (za.mono zb)); simp only [zn])
 (refine zp (t := 30) rfl _ _ rfl _ rfl _ rfl r8 (by kernel_rfl) rfl (by simp [qw, Value.oneCell']) (qt B (by omega) ?_); clear r8 B; intro wn r8 ze zf zg B; simp only [zn])
 refine zx 1 ?_
 refine wpList_nil ?_
 clear lm
 clear rd
 clear wr
 clear rb
 clear r4
 clear rk
 clear r6
 clear r8s
 have lm := by first | exact H_lm.out.below B | exact H_lm.out.of_eq (B.block _ H_lm.out.lt)
 have rd := by first | exact H_rd.out.below B | exact H_rd.out.of_eq (B.block _ H_rd.out.lt)
 have wr := by first | exact H_wr.out.below B | exact H_wr.out.of_eq (B.block _ H_wr.out.lt)
 have rb := by first | exact H_rb.out.below B | exact H_rb.out.of_eq (B.block _ H_rb.out.lt)
 have r4 := by first | exact H_r4.out.below B | exact H_r4.out.of_eq (B.block _ H_r4.out.lt)
 have rk := by first | exact H_rk.out.below B | exact H_rk.out.of_eq (B.block _ H_rk.out.lt)
 have r6 := by first | exact H_r6.out.below B | exact H_r6.out.of_eq (B.block _ H_r6.out.lt)
 have r8s := by first | exact H_r8s.out.below B | exact H_r8s.out.of_eq (B.block _ H_r8s.out.lt)
 clear H_lm
 clear H_rd
 clear H_wr
 clear H_rb
 clear H_r4
 clear H_rk
 clear H_r6
 clear H_r8s
 have B0 := BG.trans (B.mono hwsK)
 clear B BG hwsK
 have B := B0
 clear B0
 go_upto_region 6 with fail
 refine wp_region_lit ?_
 refine qE (enters_of Tryz.func34 (by kernel_rfl) rfl) (c := zdm _) (h := ?_)
 rintro e wn ⟨a10, n10, c10, rfl, za⟩
 have zf := B.size
 have zg := za.size
 replace B := B.trans (za.mono B.size)
 (try replace lm := lm.below za)
 (try replace rd := rd.below za)
 (try replace wr := wr.below za)
 (try replace rb := rb.below za)
 (try replace r4 := r4.below za)
 (try replace rk := rk.below za)
 (try replace r6 := r6.below za)
 (try replace r8s := r8s.below za)
 (try replace r8 := r8.below za)
 refine ⟨_, rfl, ?_⟩
 simp only [zn]
 refine zx 3 ?_
 obtain ⟨wK, hK⟩ : ∃ z, z = wn := ⟨_, rfl⟩
 subst hK
 have BG := B
 have hwsK := BG.size
 have B := Below.refl wK.heap.size wK
 have H_lm := Lib.hid lm
 have H_rd := Lib.hid rd
 have H_wr := Lib.hid wr
 have H_rb := Lib.hid rb
 have H_r4 := Lib.hid r4
 have H_rk := Lib.hid rk
 have H_r6 := Lib.hid r6
 have H_r8s := Lib.hid r8s
 have H_r8 := Lib.hid r8
 (refine zr (t := 30) rfl _ (zG _ _ rfl) (zV B ?_); clear B; intro b_r10 wn zb zd r10 za zf zk B; (try have zh := lm.lt); (try replace lm := lm.below (za.mono zb)); (try have zh := rd.lt); (try replace rd := rd.below (za.mono zb)); (try have zh := wr.lt); (try replace wr := wr.below (za.mono zb)); (try have zh := rb.lt); (try replace rb := rb.below (za.mono zb)); (try have zh := r4.lt); (try replace r4 := r4.below (za.mono zb)); (try have zh := rk.lt); (try replace rk := rk.below (za.mono zb)); (try have zh := r6.lt); (try replace r6 := r6.below (za.mono zb)); (try have zh := r8s.lt); (try replace r8s := r8s.below (za.mono zb)); (try have zh := r8.lt); (try replace r8 := r8.below (za.mono zb)); simp only [zn])
 (refine zp (t := 30) rfl _ _ rfl _ rfl _ rfl r10 (by kernel_rfl) rfl (by simp [qw, Value.oneCell']) (qt B (by omega) ?_); clear r10 B; intro wn r10 ze zf zg B; simp only [zn])
 refine zx 1 ?_
 refine wpList_nil ?_
 clear lm
 clear rd
 clear wr
 clear rb
 clear r4
 clear rk
 clear r6
 clear r8s
 clear r8
 have lm := by first | exact H_lm.out.below B | exact H_lm.out.of_eq (B.block _ H_lm.out.lt)
 have rd := by first | exact H_rd.out.below B | exact H_rd.out.of_eq (B.block _ H_rd.out.lt)
 have wr := by first | exact H_wr.out.below B | exact H_wr.out.of_eq (B.block _ H_wr.out.lt)
 have rb := by first | exact H_rb.out.below B | exact H_rb.out.of_eq (B.block _ H_rb.out.lt)
 have r4 := by first | exact H_r4.out.below B | exact H_r4.out.of_eq (B.block _ H_r4.out.lt)
 have rk := by first | exact H_rk.out.below B | exact H_rk.out.of_eq (B.block _ H_rk.out.lt)
 have r6 := by first | exact H_r6.out.below B | exact H_r6.out.of_eq (B.block _ H_r6.out.lt)
 have r8s := by first | exact H_r8s.out.below B | exact H_r8s.out.of_eq (B.block _ H_r8s.out.lt)
 have r8 := by first | exact H_r8.out.below B | exact H_r8.out.of_eq (B.block _ H_r8.out.lt)
 clear H_lm
 clear H_rd
 clear H_wr
 clear H_rb
 clear H_r4
 clear H_rk
 clear H_r6
 clear H_r8s
 clear H_r8
 have B0 := BG.trans (B.mono hwsK)
 clear B BG hwsK
 have B := B0
 clear B0
 clear r10
 go_upto_region 7 with fail
 try have lx_lm := lm.lt
 try have lx_rd := rd.lt
 try have lx_wr := wr.lt
 try have lx_rb := rb.lt
 try have lx_r4 := r4.lt
 try have lx_rk := rk.lt
 try have lx_r6 := r6.lt
 try have lx_r8s := r8s.lt
 try have lx_r8 := r8.lt
 refine zL 62 [(2, zP ?v1_2), (14, zfd), (15, zP ?v1_15), (20, zP ?v1_20), (29, zP ?v1_29), (39, Q6), (40, zP ?v1_40), (47, Q6), (48, zP ?v1_48), (52, zP ?v1_52), (56, Q6), (57, zP ?v1_57)] (by kernel_rfl) (by kernel_rfl) (by kernel_rfl) ?_
 rotate_left 8
 simp only [jU, Nat.reduceAdd]
 refine ug 2 ?_
 repeat (first | go_big_quiet_skip | (go_big_quiet_want; first | ((first | refine jy rfl ⟨-1, -1, 7, 2⟩ ⟨-1, -1, 7, 2⟩ rfl rfl true (by decide) ?_ | refine qB ?_ | refine qC ?_); simp only [zn]; go_big_quiet_on) | (go_big_quiet_op; go_big_quiet_on)))
 refine wpQuiet_nil ?_
 refine zz (by rfl) (by first | rfl | simp [Region.wanted, yielded]) ?_ ?_
 ·intro wn za hE Kx hKx
  have zf := B.size; have zg := za.size; replace B := B.trans (za.mono B.size)
  (try replace lm := lm.below za)
  (try replace rd := rd.below za)
  (try replace wr := wr.below za)
  (try replace rb := rb.below za)
  (try replace r4 := r4.below za)
  (try replace rk := rk.below za)
  (try replace r6 := r6.below za)
  (try replace r8s := r8s.below za)
  (try replace r8 := r8.below za)
  refine zS rfl (enters_of Tryz.func18 (by kernel_rfl) rfl) (by simp only [Act.eval, qI]; rfl) ?_
  refine (ZV _ _ vp vp true wn rd wr.rs (by decide) (by decide) (by decide)).mono ?_; rintro e wm ⟨rfl, zl⟩; refine ⟨_, rfl, ?_⟩; have hz := hKx () wm trivial zl
  dsimp only [zP] at hz
  exact hz
 rintro ⟨⟩
 dsimp only [zP]
 simp only [zn]
 refine ug 11 ?_
 repeat (first | go_big_quiet_skip | (go_big_quiet_want; first | ((first | refine jy rfl ⟨-1, -1, 7, 2⟩ ⟨-1, -1, 7, 2⟩ rfl rfl true (by decide) ?_ | refine qB ?_ | refine qC ?_); simp only [zn]; go_big_quiet_on) | (go_big_quiet_op; go_big_quiet_on)))
 refine wpQuiet_nil ?_
 refine zz (by rfl) ?hw1_14 ?_ ?_
 case hw1_14 => kernel_rfl
 ·intro wn za hE Kx hKx
  have zf := B.size; have zg := za.size; replace B := B.trans (za.mono B.size)
  (try replace lm := lm.below za)
  (try replace rb := rb.below za)
  (try replace r4 := r4.below za)
  (try replace rk := rk.below za)
  (try replace r6 := r6.below za)
  (try replace r8s := r8s.below za)
  (try replace r8 := r8.below za)
  refine zS rfl (enters_of Tryz.func19 (by kernel_rfl) rfl) (by simp only [Act.eval, qI]; rfl) ?_
  refine (kn _ (uh qF 1) [] wn rb zdl ln4).mono ?_; rintro e wm ⟨a', c', rfl, _, zl⟩; exact ⟨_, rfl, hKx (a', c') wm trivial zl⟩
 rintro ⟨a54, c54⟩
 dsimp only [zP, zfd]
 simp only [zn]
 refine zz (by rfl) ?hw1_15 ?_ ?_
 case hw1_15 => kernel_rfl
 ·intro wn za hE Kx hKx
  have zf := B.size; have zg := za.size; replace B := B.trans (za.mono B.size)
  (try replace lm := lm.below za)
  (try replace r4 := r4.below za)
  (try replace rk := rk.below za)
  (try replace r6 := r6.below za)
  (try replace r8s := r8s.below za)
  (try replace r8 := r8.below za)
  refine vg rfl Tryz.underlying35 rfl ?_; exact hKx () _ trivial (Below.refl _ _)
 rintro ⟨⟩
 dsimp only [zP]
 simp only [zn]
 refine ug 4 ?_
 repeat (first | go_big_quiet_skip | (go_big_quiet_want; first | ((first | refine jy rfl ⟨-1, -1, 7, 2⟩ ⟨-1, -1, 7, 2⟩ rfl rfl true (by decide) ?_ | refine qB ?_ | refine qC ?_); simp only [zn]; go_big_quiet_on) | (go_big_quiet_op; go_big_quiet_on)))
 refine wpQuiet_nil ?_
 refine zz (by rfl) ?hw1_20 ?_ ?_
 case hw1_20 => kernel_rfl
 ·intro wn za hE Kx hKx
  have zf := B.size; have zg := za.size; replace B := B.trans (za.mono B.size)
  (try replace lm := lm.below za)
  (try replace r4 := r4.below za)
  (try replace rk := rk.below za)
  (try replace r6 := r6.below za)
  (try replace r8s := r8s.below za)
  (try replace r8 := r8.below za)
  refine zS rfl (enters_of Tryz.func24 (by kernel_rfl) rfl) (by simp only [Act.eval, qI]; rfl) ?_
  refine (KV ⟨8, 8, 8⟩ 0 0 191 wn (by simp only; omega) (by simp only; omega) (by simp only; omega) ln5).mono ?_
  rintro e wm ⟨rfl, zl⟩; refine ⟨_, rfl, ?_⟩; have hz := hKx () wm trivial zl
  dsimp only [zP] at hz
  exact hz
 rintro ⟨⟩
 dsimp only [zP]
 simp only [zn]
 refine ug 8 ?_
 repeat (first | go_big_quiet_skip | (go_big_quiet_want; first | ((first | refine jy rfl ⟨-1, -1, 7, 2⟩ ⟨-1, -1, 7, 2⟩ rfl rfl true (by decide) ?_ | refine qB ?_ | refine qC ?_); simp only [zn]; go_big_quiet_on) | (go_big_quiet_op; go_big_quiet_on)))
 refine wpQuiet_nil ?_
 refine zz (by rfl) ?hw1_29 ?_ ?_
 case hw1_29 => kernel_rfl
 ·intro wn za hE Kx hKx
  have zf := B.size; have zg := za.size; replace B := B.trans (za.mono B.size)
  (try replace lm := lm.below za)
  (try replace r4 := r4.below za)
  (try replace rk := rk.below za)
  (try replace r8s := r8s.below za)
  (try replace r8 := r8.below za)
  refine zS rfl (enters_of Tryz.func31 (by kernel_rfl) rfl) (by simp only [Act.eval, qI]; rfl) ?_
  refine (GETC.out _ wn rk).mono ?_; rintro e wm ⟨rfl, zl⟩; refine ⟨_, rfl, ?_⟩; have hz := hKx () wm trivial zl
  dsimp only [zP] at hz
  exact hz
 rintro ⟨⟩
 dsimp only [zP]
 simp only [zn]
 refine ug 9 ?_
 repeat (first | go_big_quiet_skip | (go_big_quiet_want; first | ((first | refine jy rfl ⟨-1, -1, 7, 2⟩ ⟨-1, -1, 7, 2⟩ rfl rfl true (by decide) ?_ | refine qB ?_ | refine qC ?_); simp only [zn]; go_big_quiet_on) | (go_big_quiet_op; go_big_quiet_on)))
 refine wpQuiet_nil ?_
 refine zz (by rfl) ?hw1_39 ?_ ?_
 case hw1_39 => kernel_rfl
 ·intro wn za hE Kx hKx
  have zf := B.size; have zg := za.size; replace B := B.trans (za.mono B.size)
  (try replace lm := lm.below za)
  (try replace r8s := r8s.below za)
  refine zS rfl (enters_of Tryz.func48 (by kernel_rfl) rfl) (by simp only [Act.eval, qI]; rfl) ?_
  refine (yR wn).mono ?_; rintro e wm ⟨b', rfl, hr, zl⟩; exact ⟨_, rfl, hKx b' wm hr zl⟩
 rintro bl79
 dsimp only [zP, Q6]
 simp only [zn]
 refine zz (by rfl) ?hw1_40 ?_ ?_
 case hw1_40 => kernel_rfl
 ·intro wn za hE Kx hKx
  have zf := B.size; have zg := za.size; replace B := B.trans (za.mono B.size)
  (try replace lm := lm.below za)
  (try replace r8s := r8s.below za)
  have n79 := hE 39 (by kernel_rfl); change jF _ _ _ _ at n79
  refine zS rfl (enters_of Tryz.func28 (by kernel_rfl) rfl) (by simp only [Act.eval, qI]; rfl) ?_
  refine (vF _ _ qF qF true wn r8s n79 (by decide) (by decide) (by decide)).mono ?_; rintro e wm ⟨rfl, zl⟩; refine ⟨_, rfl, ?_⟩; have hz := hKx () wm trivial zl
  dsimp only [zP] at hz
  exact hz
 rintro ⟨⟩
 dsimp only [zP]
 simp only [zn]
 refine ug 6 ?_
 repeat (first | go_big_quiet_skip | (go_big_quiet_want; first | ((first | refine jy rfl ⟨-1, -1, 7, 2⟩ ⟨-1, -1, 7, 2⟩ rfl rfl true (by decide) ?_ | refine qB ?_ | refine qC ?_); simp only [zn]; go_big_quiet_on) | (go_big_quiet_op; go_big_quiet_on)))
 refine wpQuiet_nil ?_
 refine zz (by rfl) ?hw1_47 ?_ ?_
 case hw1_47 => kernel_rfl
 ·intro wn za hE Kx hKx
  have zf := B.size; have zg := za.size; replace B := B.trans (za.mono B.size)
  (try replace lm := lm.below za)
  refine zS rfl (enters_of Tryz.func48 (by kernel_rfl) rfl) (by simp only [Act.eval, qI]; rfl) ?_
  refine (yR wn).mono ?_; rintro e wm ⟨b', rfl, hr, zl⟩; exact ⟨_, rfl, hKx b' wm hr zl⟩
 rintro bl87
 dsimp only [zP, Q6]
 simp only [zn]
 refine zz (by rfl) ?hw1_48 ?_ ?_
 case hw1_48 => kernel_rfl
 ·intro wn za hE Kx hKx
  have zf := B.size; have zg := za.size; replace B := B.trans (za.mono B.size)
  (try replace lm := lm.below za)
  have n87 := hE 47 (by kernel_rfl); change jF _ _ _ _ at n87
  refine zS rfl (enters_of Tryz.func16 (by kernel_rfl) rfl) (by simp only [Act.eval, qI]; rfl) ?_
  refine (jh _ qF true wn n87 Qf ln1).mono ?_; rintro e wm ⟨rfl, zl⟩; refine ⟨_, rfl, ?_⟩; have hz := hKx () wm trivial zl
  dsimp only [zP] at hz
  exact hz
 rintro ⟨⟩
 dsimp only [zP]
 simp only [zn]
 refine ug 3 ?_
 repeat (first | go_big_quiet_skip | (go_big_quiet_want; first | ((first | refine jy rfl ⟨-1, -1, 7, 2⟩ ⟨-1, -1, 7, 2⟩ rfl rfl true (by decide) ?_ | refine qB ?_ | refine qC ?_); simp only [zn]; go_big_quiet_on) | (go_big_quiet_op; go_big_quiet_on)))
 refine wpQuiet_nil ?_
 refine zz (by rfl) ?hw1_52 ?_ ?_
 case hw1_52 => kernel_rfl
 ·intro wn za hE Kx hKx
  have zf := B.size; have zg := za.size; replace B := B.trans (za.mono B.size)
  (try replace lm := lm.below za)
  refine zS rfl (enters_of Tryz.func16 (by kernel_rfl) rfl) (by simp only [Act.eval, qI]; rfl) ?_
  refine (jh (.slice none 0 0) zSt false wn (zW.nil (E := qD) 0 wn).rs (by decide) ln7).mono ?_; rintro e wm ⟨rfl, zl⟩; refine ⟨_, rfl, ?_⟩; have hz := hKx () wm trivial zl
  dsimp only [zP] at hz
  exact hz
 rintro ⟨⟩
 dsimp only [zP]
 simp only [zn]
 refine ug 3 ?_
 repeat (first | go_big_quiet_skip | (go_big_quiet_want; first | ((first | refine jy rfl ⟨-1, -1, 7, 2⟩ ⟨-1, -1, 7, 2⟩ rfl rfl true (by decide) ?_ | refine qB ?_ | refine qC ?_); simp only [zn]; go_big_quiet_on) | (go_big_quiet_op; go_big_quiet_on)))
 refine wpQuiet_nil ?_
 refine zz (by rfl) ?hw1_56 ?_ ?_
 case hw1_56 => kernel_rfl
 ·intro wn za hE Kx hKx
  have zf := B.size; have zg := za.size; replace B := B.trans (za.mono B.size)
  (try replace lm := lm.below za)
  refine zS rfl (enters_of Tryz.func48 (by kernel_rfl) rfl) (by simp only [Act.eval, qI]; rfl) ?_
  refine (yR wn).mono ?_; rintro e wm ⟨b', rfl, hr, zl⟩; exact ⟨_, rfl, hKx b' wm hr zl⟩
 rintro bl96
 dsimp only [zP, Q6]
 simp only [zn]
 refine zz (by rfl) ?hw1_57 ?_ ?_
 case hw1_57 => kernel_rfl
 ·intro wn za hE Kx hKx
  have zf := B.size; have zg := za.size; replace B := B.trans (za.mono B.size)
  (try replace lm := lm.below za)
  have n96 := hE 56 (by kernel_rfl); change jF _ _ _ _ at n96
  refine zS rfl (enters_of Tryz.func21 (by kernel_rfl) rfl) (by simp only [Act.eval, qI]; rfl) ?_
  refine (zak _ qF ⟨-1, -1, 7, 2⟩ wn lm n96 Qf ln6).mono ?_; rintro e wm ⟨rfl, zl⟩; refine ⟨_, rfl, ?_⟩; have hz := hKx () wm trivial zl
  dsimp only [zP] at hz
  exact hz
 rintro ⟨⟩
 dsimp only [zP]
 simp only [zn]
 refine ug 4 ?_
 repeat (first | go_big_quiet_skip | (go_big_quiet_want; first | ((first | refine jy rfl ⟨-1, -1, 7, 2⟩ ⟨-1, -1, 7, 2⟩ rfl rfl true (by decide) ?_ | refine qB ?_ | refine qC ?_); simp only [zn]; go_big_quiet_on) | (go_big_quiet_op; go_big_quiet_on)))
 refine wpQuiet_nil ?_
 refine qz ?_
 intro wn za hE
 have zf := B.size
 have zg := za.size
 replace B := B.trans (za.mono B.size)
 have n79 := hE 39
 change jF _ _ _ _ at n79
 have n87 := hE 47
 change jF _ _ _ _ at n87
 have n96 := hE 56
 change jF _ _ _ _ at n96
 clear hE
 try simp only [List.drop_succ_cons, List.drop_zero]
 refine zQ.normal ?_
 go_wp2
 go_ret
 exact ⟨rfl, B⟩
end Go.Proofs.YtepelndbbhdofaaGreatDoor
/- How this seat's arguments are opened: slices of integers, rectangles, generated rasters. -/
namespace Go.Proofs.YtepelndbbhdofaaGreatDoor
open Go.ChangeShapes Go.WideShapes Go.ChangeAt Go.RowKit Pl
set_option linter.unusedVariables false
set_option linter.unusedSimpArgs false
set_option maxRecDepth 20000
theorem zb0 : reachBytes ≤ 140737488351232 := by decide
section
variable {H : Type} {enc : TypeId × Value → H} {w : World} {base : Nat} {spare : Nat → Bool} {held : Bool}
theorem QY (b off n : Nat) : (Addr.add ⟨b, off, none⟩ n) = ⟨b, off + n, none⟩ := by
 unfold Addr.add; split
 ·rename_i h; subst h; rfl
 ·rfl
theorem W6 {fuel : Nat} {cs : List Value} {x : DataW H × List MemPlace} (h : DataW.trod enc Tryz.prog w base spare held fuel 22 cs = some x) (hw : ∀ n ∈ x.1.weights Tryz.prog 22, n ≤ reachBytes) :
  ∃ v L, cs = [v] ∧ jF inE v L w ∧ L.length ≤ 17592186044416 := by
 have hC : Tryz.prog.cellsOf 3 = 1 := by kernel_rfl
 have hB : Tryz.prog.bytesOf 3 = 8 := by kernel_rfl
 rcases open_ints Tryz.underlying22 Tryz.underlying3 hC h with ⟨rfl, rfl⟩ | ⟨a, len, cap, zs, rfl, _, hl, hcap, hz, rfl, hcell, _⟩
 ·exact ⟨_, [], rfl, jF.nil w, by simp⟩
 ·have hzl : len ≤ zs.length := by rw [hz]; split <;> omega
  have htl : (zs.take len).length = len := by rw [List.length_take, Nat.min_eq_left hzl]
  refine ⟨_, zs.take len, rfl, ?_, ?_⟩
  ·by_cases h0 : len = 0
   ·subst h0; exact .inr (.inr ⟨a, cap, rfl, by simp⟩)
   ·obtain ⟨b, off, spot⟩ := a
    have c0 := hcell 0 (by omega); have hspot : spot = none := by simpa [Addr.add] using World.cell?_spot c0
    subst hspot; simp only [QY] at hcell c0; refine .inr (.inl ⟨b, off, cap, by rw [htl], by rw [htl]; exact hl, fun _ => ⟨World.block_lt_of_cell? w _ c0, fun i x hi j hj => ?_⟩⟩)
    obtain rfl : j = 0 := by omega
    have hil : i < len := by rw [← htl]; exact (List.getElem?_eq_some_iff.1 hi).1
    rw [List.getElem?_take_of_lt hil] at hi; rw [Nat.mul_one, Nat.add_zero, hcell i (by omega), List.getD_eq_getElem?_getD, hi]
    rfl
  ·rw [htl]
   have := hw ((len + (zs.length - len)) * 8) (by simp [DataW.weights, Tryz.underlying22, hB, lits, Nat.min_eq_left hzl]); have := zb0; omega
theorem Jk {fuel : Nat} {cs : List Value} {x : DataW H × List MemPlace} (h : DataW.trod enc Tryz.prog w base spare held fuel 3 cs = some x) : ∃ n : Int, cs = [.int .i64 n] ∧ (Lit.int .i64 n).wf = true := by
 obtain ⟨n, e, _, wf⟩ := DataW.trod_int Tryz.underlying3 h
 exact ⟨n, e, wf⟩
end
end Go.Proofs.YtepelndbbhdofaaGreatDoor
/- The door of chapter 14's laws: what the one listed variable gives the walks. -/
namespace Go.Proofs.YtepelndbbhdofaaGreatDoor
open Go.ChangeShapes Go.WideShapes Go.ChangeAt Go.RowKit Pl
set_option linter.unusedVariables false
set_option linter.unusedSimpArgs false
def XU : List (String × DataW Unit) := [("gouache/stroke.limits", Rows.laid_gouache_stroke_limits)]
theorem za8 (os : Os) (args : Array Value) : laidMetH Tryz.prog XU ((World.doorLaid Tryz.prog 400 os).forCall (fun _ _ => 0) ⟨#[], args, []⟩).memory :=
 laidMetH_of_parts3 (fuel := 8) (laidMet_of_run' 8 (by kernel_rfl) (by kernel_rfl)) (by kernel_rfl) (by kernel_rfl)
theorem Vk : Tryz.prog.globalNamed "gouache/stroke.limits" = some 0 := by kernel_rfl
/-- WHAT THE CONDITION GIVES THE WALKS. -/
theorem XW {W : World} (h : laidMetH Tryz.prog XU W) : xz W := by
 rw [MakeChecks.laidMetH_plain _ _ _ (by kernel_rfl)] at h
 obtain ⟨ps, ⟨g, t, cs, fuel, p, q, hg, ht, hv, hd, _, _⟩, _⟩ := h
 obtain rfl := Option.some.inj (Vk.symm.trans hg)
 have hty : (Tryz.prog.globals[0]?).map (·.type) = some 38 := by kernel_rfl
 obtain rfl := Option.some.inj (hty.symm.trans ht)
 have hC : Tryz.prog.cellsOf 3 = 1 := by kernel_rfl
 have hC4 : Tryz.prog.cellsOf 38 = 4 := by kernel_rfl
 obtain ⟨y0, y1, y2, y3, n, hx, hlen, h0, h1, h2, h3⟩ := Joins.trod_struct4 Tryz.underlying38 hd
 obtain ⟨c0, c1, c2, c3, rfl⟩ := Joins.array4 (show cs.size = 4 from by rw [← Array.length_toList, hlen, hC4])
 simp only [hC, List.drop_zero, List.drop_succ_cons, List.take_succ_cons, List.take_zero] at h0 h1 h2 h3
 obtain ⟨a, ea, ya, _⟩ := DataW.trod_int Tryz.underlying3 h0
 obtain ⟨b, eb, yb, _⟩ := DataW.trod_int Tryz.underlying3 h1
 obtain ⟨c, ec, yc, _⟩ := DataW.trod_int Tryz.underlying3 h2
 obtain ⟨e, ee, ye, _⟩ := DataW.trod_int Tryz.underlying3 h3
 subst ya yb yc ye
 simp only [Rows.laid_gouache_stroke_limits, Prod.mk.injEq, DataW.agg.injEq, List.cons.injEq, DataW.lit.injEq, Lit.int.injEq, true_and, and_true] at hx
 obtain ⟨⟨rfl, rfl, rfl, rfl⟩, _⟩ := hx
 simp at ea eb ec ee
 subst ea eb ec ee
 have hh : ∃ t k, W.heap[0]? = some (.cells #[.int .i64 (-65536), .int .i64 (-65536), .int .i64 65536, .int .i64 65536] t k) := by
  unfold World.var? at hv; rw [Vk] at hv; simp only [Option.bind_some] at hv; split at hv
  ·rename_i cs2 t2 k2 he
   injection hv with hv
   subst hv; exact ⟨_, _, he⟩
  ·cases hv
 obtain ⟨t2, k2, hh⟩ := hh
 refine ⟨(Array.getElem?_eq_some_iff.1 hh).1, fun j hj => ?_⟩
 unfold World.cell?
 simp only [hh]
 rfl
end Go.Proofs.YtepelndbbhdofaaGreatDoor
/- Openers of chapter 14's arguments; masks. -/
namespace Go.Proofs.YtepelndbbhdofaaGreatDoor
open Go.ChangeShapes Go.WideShapes Go.ChangeAt Go.RowKit Pl
set_option linter.unusedVariables false
set_option linter.unusedSimpArgs false
set_option maxRecDepth 20000
section
variable {H : Type} {enc : TypeId × Value → H} {w : World} {base : Nat} {spare : Nat → Bool} {held : Bool}
end
theorem Wz (x : Int) : ∃ p : Int, bits .and .i64 x 65535 = p ∧ 0 ≤ p ∧ p ≤ 65535 := ⟨x % 65536, yQ x 16 65535 rfl (by decide), by omega, by omega⟩
/- Openers of chapter 14's arguments: rows of three and six integers, a Raw. -/
section
variable {H : Type} {enc : TypeId × Value → H} {w : World} {base : Nat} {spare : Nat → Bool} {held : Bool}
theorem Ko {r : Reach} {b0 : Nat} {v : Value} {d : DataW H} {p : List MemPlace} (hv : Value.okWide Tryz.prog w r b0 24 v)
  (h : DataW.Trod enc Tryz.prog w base spare held 24 v d p) (hw : ∀ n ∈ d.weights Tryz.prog 24, n ≤ reachBytes) :
  ∃ (vL : Value) (L : List Int) (how val : Int), v = .agg #[vL, .int .i64 how, .int .i64 val] ∧ jF inE vL L w ∧ L.length ≤ 17592186044416 ∧ (Lit.int .i64 how).wf = true ∧ (Lit.int .i64 val).wf = true := by
 obtain ⟨v0, v1, v2, y0, y1, y2, n, rfl, hd, _, h0, h1, h2⟩ := Joins.open_agg3 Tryz.underlying24 (by kernel_rfl) (by kernel_rfl) hv h
 have hww : ∀ n, n ∈ y0.1.weights Tryz.prog 22 → n ≤ reachBytes := fun n hn => by
  refine hw n ?_; rw [hd]; simp only [DataW.weights, Tryz.underlying24]; simp only [List.map_cons, List.map_nil, DataW.weightsEach, List.mem_append]; exact .inl hn
 obtain ⟨vL, L, eL, rL, lL⟩ := W6 h0 fun n hn => hww n hn
 obtain ⟨how, eh, wh⟩ := Jk h1
 obtain ⟨val, ev, wv⟩ := Jk h2
 simp at eL eh ev
 subst eL; subst eh; subst ev
 exact ⟨_, L, how, val, rfl, rL, lL, wh, wv⟩
end
end Go.Proofs.YtepelndbbhdofaaGreatDoor
/- Plain: made strokes are valid, lie near the origin, and paint without an error. -/
namespace Go.Proofs.YtepelndbbhdofaaGreatDoor
open Go.RowKit Pl
set_option linter.unusedVariables false
set_option linter.unusedSimpArgs false
set_option maxRecDepth 20000
/-- Dabs within the bounds of the points. -/
def InD (m n R : Int) (d : Db) : Prop := (m ≤ d.x ∧ d.x ≤ n) ∧ (m ≤ d.y ∧ d.y ≤ n) ∧ 0 ≤ d.r ∧ d.r ≤ R
def InS (m n : Int) (a : Sp) : Prop := (m ≤ a.x ∧ a.x ≤ n) ∧ (m ≤ a.y ∧ a.y ≤ n)
theorem vK (L : List Int) : (xw L).pts.length = madeN L := Zj _ _
/- Plain: painting made strokes onto made rasters ends without an error. -/
def zg1 : Rc := ⟨-3, -3, 4, 4⟩
theorem YT.nil (R : Rc) : YT R [] := fun e h => by cases h
end Go.Proofs.YtepelndbbhdofaaGreatDoor
