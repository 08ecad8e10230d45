/- StrokeSplit: for every made stroke with one field changed and every point, Split agrees with the reference, and the dabs of both halves are the dabs of the stroke: the law returns true for every input, and its arguments read as they did; what the listed variable holds is tied to the program's text. No other condition. -/
import Derived.Test.YtepelndbbhdofaaGreatDoorKs5
import Derived.Lib.AppendZeros

/- of: a made stroke with one field changed. -/
namespace Go.Proofs.YtepelndbbhdofaaGreatDoor
open Go.RowKit Go.Shelf Pl
set_option linter.unusedVariables false
set_option linter.unusedSimpArgs false
set_option maxRecDepth 20000
theorem zW.neT {α : Type} {k : Nat} {T ST : TypeId} {E : ZQ α k T ST} {B b : Nat} {v : Value} {ls : List α} {t : TypeId} {cs : Array Value} {w : World} (h : zW E B v ls w) (ha : zF t w b cs) (ht : t ≠ T) : ∀ g, v.ownBlock = some g → g ≠ b := fun g hg e => by
 obtain ⟨cur, hc⟩ := h.block hg
 subst e
 have := (show w.heap[g]? = _ from hc).symm.trans ha
 injection this with this
 injection this with _ this
 exact ht this.symm
def oIx (L : List Int) (val : Int) : Nat := (val % 65536 % (madeN L : Int)).toNat
def JU (n k : Nat) : List Sp := (List.range k).map fun j => ⟨((n + j : Nat) : Int), 0, 9⟩
def ofN (val : Int) : Nat := (64 + val % 2).toNat
def vH (l : List Sp) (k : Nat) : List Sp := l ++ JU l.length k
theorem Q4 (l : List Sp) (k : Nat) : (vH l k).length = l.length + k := by unfold vH JU; rw [List.length_append, List.length_map, List.length_range]
theorem Kg (l : List Sp) (k : Nat) : vH l (k + 1) = vH l k ++ [⟨((l.length + k : Nat) : Int), 0, 9⟩] := by
 unfold vH JU
 rw [List.range_succ, List.map_append, List.append_assoc]
 rfl
/-- The stroke that 'of' returns. -/
def Wh (s : qv) (c : Int) (i : Nat) (val : Int) : qv :=
 if c = 1 then { s with pts := s.pts.set i ⟨val, (qR s.pts i).y, (qR s.pts i).p⟩ }
 else if c = 2 then { s with pts := s.pts.set i ⟨(qR s.pts i).x, val, (qR s.pts i).p⟩ }
 else if c = 3 then { s with pts := s.pts.set i ⟨(qR s.pts i).x, (qR s.pts i).y, val⟩ }
 else if c = 4 then { s with rad := val }
 else if c = 5 then { s with spa := val }
 else if c = 6 then { s with pha := val }
 else if c = 7 then { s with pts := [] }
 else if c = 8 then { s with pts := vH s.pts (ofN val - s.pts.length) }
 else s
def ofS (L : List Int) (how val : Int) : qv := Wh (xw L) (how % 16) (oIx L val) val
theorem zcU (s : qv) (c : Int) (i : Nat) (val : Int) (h : s.pts.length ≤ 6) : (Wh s c i val).pts.length ≤ 65 := by
 have hn : ofN val ≤ 65 := by unfold ofN; omega
 unfold Wh
 repeat' split
 all_goals try simp only [List.length_set, List.length_nil, Q4]
 all_goals omega
theorem zdt (L : List Int) (how val : Int) : (ofS L how val).pts.length ≤ 65 := zcU _ _ _ _ (by rw [vK]; exact (XY L).2)
def zge : Option Value → Nat
 | some (.slice _ n _) => n
 | _ => 0
set_option maxHeartbeats 8000000 in
theorem zd7 (vL : Value) (L : List Int) (how val : Int) (S' : qv) (w : World) (ls : jF inE vL L w) (hn : L.length ≤ 17592186044416) (e : ofS L how val = S') : Calls Tryz.prog 14 #[.agg #[vL, .int .i64 how, .int .i64 val]] w fun e w' => ∃ v', e = .returned (.agg (qw v' S')) ∧ jF qD v' S'.pts w' ∧ Below w.heap.size w w' := by
 have B := Below.refl w.heap.size w
 obtain ⟨aL, cL, rfl, hcL⟩ := ls.len
 have mb := XY L
 have HLL := Lib.hid (vK L)
 have mlen : (xw L).pts.length ≤ 6 := by rw [vK]; exact mb.2
 have mlen1 : 1 ≤ (xw L).pts.length := by rw [vK]; exact mb.1
 have hV : bits .and .i64 val 65535 = val % 65536 := yQ val 16 65535 rfl (by decide)
 have hV1 : bits .and .i64 val 1 = val % 2 := yQ val 1 1 rfl (by decide)
 have hC : bits .and .i64 how 15 = how % 16 := yQ how 4 15 rfl (by decide)
 have HI := Lib.hid (show oIx L val = (val % 65536 % ((xw L).pts.length : Int)).toNat from by unfold oIx; rw [vK])
 have HE := Lib.hid (show Wh (xw L) (how % 16) (oIx L val) val = S' from e)
 obtain ⟨i, hi⟩ : ∃ i, oIx L val = i := ⟨_, rfl⟩
 rw [hi] at HI HE
 have HMA := Lib.hid (fun w' (h : Below w.heap.size w w') => Wc (.slice aL L.length cL) L w' (ls.below h) hn)
 clear hi ls e mb HLL
 obtain ⟨s, hs⟩ : ∃ s, xw L = s := ⟨_, rfl⟩
 rw [hs] at mlen mlen1 HI HE HMA
 clear hs
 obtain ⟨n, zk⟩ : ∃ n : Nat, s.pts.length = n := ⟨_, rfl⟩
 rw [zk] at mlen mlen1 HI HMA
 have HLN := Lib.hid zk
 clear zk
 have e0 : (n : Int) ≠ 0 := by omega
 have e00 : ((n : Int) == 0) = false := by simp; omega
 have t1 : Int.tmod (val % 65536) (n : Int) = (i : Int) := by
  rw [Int.tmod_eq_emod_of_nonneg (by omega), HI.out]; exact (Int.toNat_of_nonneg (Int.emod_nonneg _ e0)).symm
 have hin : i < n := by
  rw [HI.out]; have := Int.emod_lt_of_pos (val % 65536) (show (0 : Int) < n by omega); omega
 obtain ⟨C, hCC⟩ : ∃ C, how % 16 = C := ⟨_, rfl⟩
 rw [hCC] at hC HE
 have hC0 : 0 ≤ C ∧ C ≤ 15 := by omega
 clear hCC HI
 go_enter Tryz.func14, Tryz.ntmps14
 go_upto_region 0 with fail
 refine wp_region_lit ?_
 (refine zt (t := 24) rfl _ rfl _ rfl (zV B ?_); clear B; intro b_r1 wn zb zd r1 za zf zk B; simp only [zn])
 (refine zr (t := 30) rfl _ (zG _ _ rfl) (zV B ?_); clear B; intro b_r2 wn zb zd r2 za zf zk B; (try have zh := r1.lt); (try replace r1 := r1.below (za.mono zb)); simp only [zn])
 refine wpList_nil ?_
 have k1 : w.heap.size ≤ b_r1 := by omega
 have k2 : b_r1 < b_r2 := by have := r1.lt; omega
 have k3 := r2.lt
 go_upto_region 1 with fail
 obtain ⟨b0, hb0⟩ : ∃ n, n = wn.heap.size := ⟨_, rfl⟩
 have k4 : b_r2 < b0 := by omega
 have k5 : b_r1 < b0 := by omega
 have HB0 := Lib.hid hb0
 clear hb0
 refine wp_region_lit ?_
 refine zx 2 ?_
 refine qE (enters_of Tryz.func15 (by kernel_rfl) rfl) (c := HMA.out _ B) (h := ?_)
 rintro e wn ⟨a3, c3, rfl, od, za⟩
 have zf := B.size
 have zg := za.size
 replace B := B.trans (za.mono B.size)
 (try replace r1 := r1.below za)
 (try replace r2 := r2.below za)
 rw [← HB0.out] at od
 refine ⟨_, rfl, ?_⟩
 simp only [zn]
 (have _ := od; refine zr (t := 30) rfl _ (zG _ _ rfl) (zV B ?_); clear B; intro b_r3 wn zb zd r3 za zf zk B; replace od := od.below (za.mono zb); (try have zh := r1.lt); (try replace r1 := r1.below (za.mono zb)); (try have zh := r2.lt); (try replace r2 := r2.below (za.mono zb)); (try have zh := r3.lt); (try replace r3 := r3.below (za.mono zb)); simp only [zn])
 (refine zp (t := 30) rfl _ _ rfl _ rfl _ rfl r3 (by kernel_rfl) rfl (by simp [qw, Value.oneCell']) (qt B (by omega) ?_); have hnB := od.neT r3 (by decide); clear r3 B; intro wn r3 ze zf zg B; replace od := od.chgB ze hnB; clear hnB; (try replace r1 := r1.of_eq (ze.block _ r1.lt (by omega))); (try replace r2 := r2.of_eq (ze.block _ r2.lt (by omega))); simp only [zn])
 refine wpList_nil ?_
 clear HMA HB0
 go_upto_region 2 with fail
 refine wp_region_lit ?_
 refine zx 5 ?_
 refine zw (by first | rfl | simp [Region.wanted, yielded]) rfl Tryz.underlying26 rfl ?_
 simp only [zn]
 refine zx 2 ?_
 refine wpList_nil ?_
 go_upto_region 3 with fail
 refine wp_region_lit ?_
 refine zx 3 ?_
 refine wpList_nil ?_
 have hPn : n = s.pts.length := HLN.out.symm
 have hiP : i < s.pts.length := by omega
 have HPX : Hid (qR s.pts i = ⟨(qR s.pts i).x, (qR s.pts i).y, (qR s.pts i).p⟩) := Lib.hid rfl
 have pcx := od.rs
 have oin : ∃ g, a3 = some ⟨g, 0, none⟩ := by
  obtain ⟨_, h2⟩ := od; rcases h2 with ⟨e, _⟩ | ⟨g', cap, cur, e, _⟩
  ·injection e with e1 e2 _
   omega
  ·injection e with e1 _ _
   exact ⟨g', e1⟩
 obtain ⟨g, rfl⟩ := oin
 have hgb : b0 ≤ g := (World.ownsRow.lt od g rfl).1
 have hg3 : g ≠ b_r3 := od.neT r3 (by decide) g rfl
 clear pcx
 have qs : C = 1 ∨ C = 2 ∨ C = 3 ∨ C = 4 ∨ C = 5 ∨ C = 6 ∨ C = 7 ∨ C = 8 ∨ (C ≠ 1 ∧ C ≠ 2 ∧ C ≠ 3 ∧ C ≠ 4 ∧ C ≠ 5 ∧ C ≠ 6 ∧ C ≠ 7 ∧ C ≠ 8) := by omega
 rcases qs with hx | hx | hx | hx | hx | hx | hx | hx | hx
 ·have HS := Lib.hid (show S' = ⟨s.pts.set i ⟨val, (qR s.pts i).y, (qR s.pts i).p⟩, s.rad, s.spa, s.col, s.era, s.pha⟩ from by rw [← HE.out]; rw [hx]; simp [Wh, HLN.out])
  have q1 : (C == 1) = true := by rw [hx]; rfl
  have p1 : decide (C = 1) = true := by rw [hx]; rfl
  have q2 : (C == 2) = false := by rw [hx]; rfl
  have p2 : decide (C = 2) = false := by rw [hx]; rfl
  have q3 : (C == 3) = false := by rw [hx]; rfl
  have p3 : decide (C = 3) = false := by rw [hx]; rfl
  have q4 : (C == 4) = false := by rw [hx]; rfl
  have p4 : decide (C = 4) = false := by rw [hx]; rfl
  have q5 : (C == 5) = false := by rw [hx]; rfl
  have p5 : decide (C = 5) = false := by rw [hx]; rfl
  have q6 : (C == 6) = false := by rw [hx]; rfl
  have p6 : decide (C = 6) = false := by rw [hx]; rfl
  have q7 : (C == 7) = false := by rw [hx]; rfl
  have p7 : decide (C = 7) = false := by rw [hx]; rfl
  have q8 : (C == 8) = false := by rw [hx]; rfl
  have p8 : decide (C = 8) = false := by rw [hx]; rfl
  clear HE hx hC0; go_upto_region 4 with fail
  refine wp_region_lit ?_; refine zx 2 ?_; refine wpList_nil ?_; go_upto_region 5 with fail
  refine wp_region_lit ?_; refine zx 7 ?_
  (refine vf rfl _ _ rfl _ _ rfl _ rfl od hPn i 0 hiP (by omega) (by omega) ⟨val, (qR s.pts i).y, (qR s.pts i).p⟩ (by rw [HPX.out]; rfl) ?_; clear od; intro wn od ze zg; have zf := B.size; replace zg := Nat.le_of_eq zg.symm; replace B := qN.below B ze (by omega) B.size; (try replace r1 := r1.of_eq (ze.block _ r1.lt (by omega))); (try replace r2 := r2.of_eq (ze.block _ r2.lt (by omega))); (try replace r3 := r3.of_eq (ze.block _ r3.lt (by omega))); simp only [zn])
  refine wpList_nil ?_; go_upto_region 21 with fail
  refine wp_region_lit ?_; refine zx 1 ?_
  (refine zp (t := 30) rfl _ _ rfl _ rfl _ rfl r2 (by kernel_rfl) rfl (by simp [qw, Value.oneCell']) (qt B (by omega) ?_); clear r2 B; intro wn r2 ze zf zg B; replace od := od.chg ze (by omega); (try replace r1 := r1.of_eq (ze.block _ r1.lt (by omega))); (try replace r3 := r3.of_eq (ze.block _ r3.lt (by omega))); simp only [zn])
  refine wpList_nil ?_; first | (refine bodyPost_ret (zv (t := 30) rfl _ _ (b_r2) rfl r2 Tryz.isAgg30 (by kernel_rfl)) rfl ?_) | (go_step; refine bodyPost_ret (zv (t := 30) rfl _ _ (b_r2) rfl r2 Tryz.isAgg30 (by kernel_rfl)) rfl ?_) | (go_step; go_step; refine bodyPost_ret (zv (t := 30) rfl _ _ (b_r2) rfl r2 Tryz.isAgg30 (by kernel_rfl)) rfl ?_) | (go_step; go_step; go_step; refine bodyPost_ret (zv (t := 30) rfl _ _ (b_r2) rfl r2 Tryz.isAgg30 (by kernel_rfl)) rfl ?_) | (go_step; go_step; go_step; go_step; refine bodyPost_ret (zv (t := 30) rfl _ _ (b_r2) rfl r2 Tryz.isAgg30 (by kernel_rfl)) rfl ?_) | (go_step; go_step; go_step; go_step; go_step; refine bodyPost_ret (zv (t := 30) rfl _ _ (b_r2) rfl r2 Tryz.isAgg30 (by kernel_rfl)) rfl ?_)
  rw [HS.out]; exact ⟨_, rfl, od.rs, B⟩
 ·have HS := Lib.hid (show S' = ⟨s.pts.set i ⟨(qR s.pts i).x, val, (qR s.pts i).p⟩, s.rad, s.spa, s.col, s.era, s.pha⟩ from by rw [← HE.out]; rw [hx]; simp [Wh, HLN.out])
  have q1 : (C == 1) = false := by rw [hx]; rfl
  have p1 : decide (C = 1) = false := by rw [hx]; rfl
  have q2 : (C == 2) = true := by rw [hx]; rfl
  have p2 : decide (C = 2) = true := by rw [hx]; rfl
  have q3 : (C == 3) = false := by rw [hx]; rfl
  have p3 : decide (C = 3) = false := by rw [hx]; rfl
  have q4 : (C == 4) = false := by rw [hx]; rfl
  have p4 : decide (C = 4) = false := by rw [hx]; rfl
  have q5 : (C == 5) = false := by rw [hx]; rfl
  have p5 : decide (C = 5) = false := by rw [hx]; rfl
  have q6 : (C == 6) = false := by rw [hx]; rfl
  have p6 : decide (C = 6) = false := by rw [hx]; rfl
  have q7 : (C == 7) = false := by rw [hx]; rfl
  have p7 : decide (C = 7) = false := by rw [hx]; rfl
  have q8 : (C == 8) = false := by rw [hx]; rfl
  have p8 : decide (C = 8) = false := by rw [hx]; rfl
  clear HE hx hC0; go_upto_region 4 with fail
  refine wp_region_lit ?_; refine zx 2 ?_; refine wpList_nil ?_; go_upto_region 6 with fail
  refine wp_region_lit ?_; refine zx 2 ?_; refine wpList_nil ?_; go_upto_region 7 with fail
  refine wp_region_lit ?_; refine zx 7 ?_
  (refine vf rfl _ _ rfl _ _ rfl _ rfl od hPn i 1 hiP (by omega) (by omega) ⟨(qR s.pts i).x, val, (qR s.pts i).p⟩ (by rw [HPX.out]; rfl) ?_; clear od; intro wn od ze zg; have zf := B.size; replace zg := Nat.le_of_eq zg.symm; replace B := qN.below B ze (by omega) B.size; (try replace r1 := r1.of_eq (ze.block _ r1.lt (by omega))); (try replace r2 := r2.of_eq (ze.block _ r2.lt (by omega))); (try replace r3 := r3.of_eq (ze.block _ r3.lt (by omega))); simp only [zn])
  refine wpList_nil ?_; go_upto_region 21 with fail
  refine wp_region_lit ?_; refine zx 1 ?_
  (refine zp (t := 30) rfl _ _ rfl _ rfl _ rfl r2 (by kernel_rfl) rfl (by simp [qw, Value.oneCell']) (qt B (by omega) ?_); clear r2 B; intro wn r2 ze zf zg B; replace od := od.chg ze (by omega); (try replace r1 := r1.of_eq (ze.block _ r1.lt (by omega))); (try replace r3 := r3.of_eq (ze.block _ r3.lt (by omega))); simp only [zn])
  refine wpList_nil ?_; first | (refine bodyPost_ret (zv (t := 30) rfl _ _ (b_r2) rfl r2 Tryz.isAgg30 (by kernel_rfl)) rfl ?_) | (go_step; refine bodyPost_ret (zv (t := 30) rfl _ _ (b_r2) rfl r2 Tryz.isAgg30 (by kernel_rfl)) rfl ?_) | (go_step; go_step; refine bodyPost_ret (zv (t := 30) rfl _ _ (b_r2) rfl r2 Tryz.isAgg30 (by kernel_rfl)) rfl ?_) | (go_step; go_step; go_step; refine bodyPost_ret (zv (t := 30) rfl _ _ (b_r2) rfl r2 Tryz.isAgg30 (by kernel_rfl)) rfl ?_) | (go_step; go_step; go_step; go_step; refine bodyPost_ret (zv (t := 30) rfl _ _ (b_r2) rfl r2 Tryz.isAgg30 (by kernel_rfl)) rfl ?_) | (go_step; go_step; go_step; go_step; go_step; refine bodyPost_ret (zv (t := 30) rfl _ _ (b_r2) rfl r2 Tryz.isAgg30 (by kernel_rfl)) rfl ?_)
  rw [HS.out]; exact ⟨_, rfl, od.rs, B⟩
 ·have HS := Lib.hid (show S' = ⟨s.pts.set i ⟨(qR s.pts i).x, (qR s.pts i).y, val⟩, s.rad, s.spa, s.col, s.era, s.pha⟩ from by rw [← HE.out]; rw [hx]; simp [Wh, HLN.out])
  have q1 : (C == 1) = false := by rw [hx]; rfl
  have p1 : decide (C = 1) = false := by rw [hx]; rfl
  have q2 : (C == 2) = false := by rw [hx]; rfl
  have p2 : decide (C = 2) = false := by rw [hx]; rfl
  have q3 : (C == 3) = true := by rw [hx]; rfl
  have p3 : decide (C = 3) = true := by rw [hx]; rfl
  have q4 : (C == 4) = false := by rw [hx]; rfl
  have p4 : decide (C = 4) = false := by rw [hx]; rfl
  have q5 : (C == 5) = false := by rw [hx]; rfl
  have p5 : decide (C = 5) = false := by rw [hx]; rfl
  have q6 : (C == 6) = false := by rw [hx]; rfl
  have p6 : decide (C = 6) = false := by rw [hx]; rfl
  have q7 : (C == 7) = false := by rw [hx]; rfl
  have p7 : decide (C = 7) = false := by rw [hx]; rfl
  have q8 : (C == 8) = false := by rw [hx]; rfl
  have p8 : decide (C = 8) = false := by rw [hx]; rfl
  clear HE hx hC0; go_upto_region 4 with fail
  refine wp_region_lit ?_; refine zx 2 ?_; refine wpList_nil ?_; go_upto_region 6 with fail
  refine wp_region_lit ?_; refine zx 2 ?_; refine wpList_nil ?_; go_upto_region 8 with fail
  refine wp_region_lit ?_; refine zx 2 ?_; refine wpList_nil ?_; go_upto_region 9 with fail
  refine wp_region_lit ?_; refine zx 7 ?_
  (refine vf rfl _ _ rfl _ _ rfl _ rfl od hPn i 2 hiP (by omega) (by omega) ⟨(qR s.pts i).x, (qR s.pts i).y, val⟩ (by rw [HPX.out]; rfl) ?_; clear od; intro wn od ze zg; have zf := B.size; replace zg := Nat.le_of_eq zg.symm; replace B := qN.below B ze (by omega) B.size; (try replace r1 := r1.of_eq (ze.block _ r1.lt (by omega))); (try replace r2 := r2.of_eq (ze.block _ r2.lt (by omega))); (try replace r3 := r3.of_eq (ze.block _ r3.lt (by omega))); simp only [zn])
  refine wpList_nil ?_; go_upto_region 21 with fail
  refine wp_region_lit ?_; refine zx 1 ?_
  (refine zp (t := 30) rfl _ _ rfl _ rfl _ rfl r2 (by kernel_rfl) rfl (by simp [qw, Value.oneCell']) (qt B (by omega) ?_); clear r2 B; intro wn r2 ze zf zg B; replace od := od.chg ze (by omega); (try replace r1 := r1.of_eq (ze.block _ r1.lt (by omega))); (try replace r3 := r3.of_eq (ze.block _ r3.lt (by omega))); simp only [zn])
  refine wpList_nil ?_; first | (refine bodyPost_ret (zv (t := 30) rfl _ _ (b_r2) rfl r2 Tryz.isAgg30 (by kernel_rfl)) rfl ?_) | (go_step; refine bodyPost_ret (zv (t := 30) rfl _ _ (b_r2) rfl r2 Tryz.isAgg30 (by kernel_rfl)) rfl ?_) | (go_step; go_step; refine bodyPost_ret (zv (t := 30) rfl _ _ (b_r2) rfl r2 Tryz.isAgg30 (by kernel_rfl)) rfl ?_) | (go_step; go_step; go_step; refine bodyPost_ret (zv (t := 30) rfl _ _ (b_r2) rfl r2 Tryz.isAgg30 (by kernel_rfl)) rfl ?_) | (go_step; go_step; go_step; go_step; refine bodyPost_ret (zv (t := 30) rfl _ _ (b_r2) rfl r2 Tryz.isAgg30 (by kernel_rfl)) rfl ?_) | (go_step; go_step; go_step; go_step; go_step; refine bodyPost_ret (zv (t := 30) rfl _ _ (b_r2) rfl r2 Tryz.isAgg30 (by kernel_rfl)) rfl ?_)
  rw [HS.out]; exact ⟨_, rfl, od.rs, B⟩
 ·have HS := Lib.hid (show S' = ⟨s.pts, val, s.spa, s.col, s.era, s.pha⟩ from by rw [← HE.out]; rw [hx]; simp [Wh, HLN.out])
  have q1 : (C == 1) = false := by rw [hx]; rfl
  have p1 : decide (C = 1) = false := by rw [hx]; rfl
  have q2 : (C == 2) = false := by rw [hx]; rfl
  have p2 : decide (C = 2) = false := by rw [hx]; rfl
  have q3 : (C == 3) = false := by rw [hx]; rfl
  have p3 : decide (C = 3) = false := by rw [hx]; rfl
  have q4 : (C == 4) = true := by rw [hx]; rfl
  have p4 : decide (C = 4) = true := by rw [hx]; rfl
  have q5 : (C == 5) = false := by rw [hx]; rfl
  have p5 : decide (C = 5) = false := by rw [hx]; rfl
  have q6 : (C == 6) = false := by rw [hx]; rfl
  have p6 : decide (C = 6) = false := by rw [hx]; rfl
  have q7 : (C == 7) = false := by rw [hx]; rfl
  have p7 : decide (C = 7) = false := by rw [hx]; rfl
  have q8 : (C == 8) = false := by rw [hx]; rfl
  have p8 : decide (C = 8) = false := by rw [hx]; rfl
  clear HE hx hC0; go_upto_region 4 with fail
  refine wp_region_lit ?_; refine zx 2 ?_; refine wpList_nil ?_; go_upto_region 6 with fail
  refine wp_region_lit ?_; refine zx 2 ?_; refine wpList_nil ?_; go_upto_region 8 with fail
  refine wp_region_lit ?_; refine zx 2 ?_; refine wpList_nil ?_; go_upto_region 10 with fail
  refine wp_region_lit ?_; refine zx 2 ?_; refine wpList_nil ?_; go_upto_region 11 with fail
  refine wp_region_lit ?_; refine zx 3 ?_
  (refine jw (t := 30) rfl _ _ rfl _ 1 rfl _ rfl r3 rfl (qt B (by omega) ?_); have hnB := od.neT r3 (by decide); clear r3 B; intro wn r3 ze zf zg B; replace od := od.chgB ze hnB; clear hnB; (try replace r1 := r1.of_eq (ze.block _ r1.lt (by omega))); (try replace r2 := r2.of_eq (ze.block _ r2.lt (by omega))); simp only [zn])
  refine wpList_nil ?_; replace r3 : zF 30 _ b_r3 (qw (.slice (some ⟨g, 0, none⟩) n c3) ⟨s.pts, val, s.spa, s.col, s.era, s.pha⟩) := r3; go_upto_region 21 with fail
  refine wp_region_lit ?_; refine zx 1 ?_
  (refine zp (t := 30) rfl _ _ rfl _ rfl _ rfl r2 (by kernel_rfl) rfl (by simp [qw, Value.oneCell']) (qt B (by omega) ?_); clear r2 B; intro wn r2 ze zf zg B; replace od := od.chg ze (by omega); (try replace r1 := r1.of_eq (ze.block _ r1.lt (by omega))); (try replace r3 := r3.of_eq (ze.block _ r3.lt (by omega))); simp only [zn])
  refine wpList_nil ?_; first | (refine bodyPost_ret (zv (t := 30) rfl _ _ (b_r2) rfl r2 Tryz.isAgg30 (by kernel_rfl)) rfl ?_) | (go_step; refine bodyPost_ret (zv (t := 30) rfl _ _ (b_r2) rfl r2 Tryz.isAgg30 (by kernel_rfl)) rfl ?_) | (go_step; go_step; refine bodyPost_ret (zv (t := 30) rfl _ _ (b_r2) rfl r2 Tryz.isAgg30 (by kernel_rfl)) rfl ?_) | (go_step; go_step; go_step; refine bodyPost_ret (zv (t := 30) rfl _ _ (b_r2) rfl r2 Tryz.isAgg30 (by kernel_rfl)) rfl ?_) | (go_step; go_step; go_step; go_step; refine bodyPost_ret (zv (t := 30) rfl _ _ (b_r2) rfl r2 Tryz.isAgg30 (by kernel_rfl)) rfl ?_) | (go_step; go_step; go_step; go_step; go_step; refine bodyPost_ret (zv (t := 30) rfl _ _ (b_r2) rfl r2 Tryz.isAgg30 (by kernel_rfl)) rfl ?_)
  rw [HS.out]; exact ⟨_, rfl, od.rs, B⟩
 ·have HS := Lib.hid (show S' = ⟨s.pts, s.rad, val, s.col, s.era, s.pha⟩ from by rw [← HE.out]; rw [hx]; simp [Wh, HLN.out])
  have q1 : (C == 1) = false := by rw [hx]; rfl
  have p1 : decide (C = 1) = false := by rw [hx]; rfl
  have q2 : (C == 2) = false := by rw [hx]; rfl
  have p2 : decide (C = 2) = false := by rw [hx]; rfl
  have q3 : (C == 3) = false := by rw [hx]; rfl
  have p3 : decide (C = 3) = false := by rw [hx]; rfl
  have q4 : (C == 4) = false := by rw [hx]; rfl
  have p4 : decide (C = 4) = false := by rw [hx]; rfl
  have q5 : (C == 5) = true := by rw [hx]; rfl
  have p5 : decide (C = 5) = true := by rw [hx]; rfl
  have q6 : (C == 6) = false := by rw [hx]; rfl
  have p6 : decide (C = 6) = false := by rw [hx]; rfl
  have q7 : (C == 7) = false := by rw [hx]; rfl
  have p7 : decide (C = 7) = false := by rw [hx]; rfl
  have q8 : (C == 8) = false := by rw [hx]; rfl
  have p8 : decide (C = 8) = false := by rw [hx]; rfl
  clear HE hx hC0; go_upto_region 4 with fail
  refine wp_region_lit ?_; refine zx 2 ?_; refine wpList_nil ?_; go_upto_region 6 with fail
  refine wp_region_lit ?_; refine zx 2 ?_; refine wpList_nil ?_; go_upto_region 8 with fail
  refine wp_region_lit ?_; refine zx 2 ?_; refine wpList_nil ?_; go_upto_region 10 with fail
  refine wp_region_lit ?_; refine zx 2 ?_; refine wpList_nil ?_; go_upto_region 12 with fail
  refine wp_region_lit ?_; refine zx 2 ?_; refine wpList_nil ?_; go_upto_region 13 with fail
  refine wp_region_lit ?_; refine zx 3 ?_
  (refine jw (t := 30) rfl _ _ rfl _ 2 rfl _ rfl r3 rfl (qt B (by omega) ?_); have hnB := od.neT r3 (by decide); clear r3 B; intro wn r3 ze zf zg B; replace od := od.chgB ze hnB; clear hnB; (try replace r1 := r1.of_eq (ze.block _ r1.lt (by omega))); (try replace r2 := r2.of_eq (ze.block _ r2.lt (by omega))); simp only [zn])
  refine wpList_nil ?_; replace r3 : zF 30 _ b_r3 (qw (.slice (some ⟨g, 0, none⟩) n c3) ⟨s.pts, s.rad, val, s.col, s.era, s.pha⟩) := r3; go_upto_region 21 with fail
  refine wp_region_lit ?_; refine zx 1 ?_
  (refine zp (t := 30) rfl _ _ rfl _ rfl _ rfl r2 (by kernel_rfl) rfl (by simp [qw, Value.oneCell']) (qt B (by omega) ?_); clear r2 B; intro wn r2 ze zf zg B; replace od := od.chg ze (by omega); (try replace r1 := r1.of_eq (ze.block _ r1.lt (by omega))); (try replace r3 := r3.of_eq (ze.block _ r3.lt (by omega))); simp only [zn])
  refine wpList_nil ?_; first | (refine bodyPost_ret (zv (t := 30) rfl _ _ (b_r2) rfl r2 Tryz.isAgg30 (by kernel_rfl)) rfl ?_) | (go_step; refine bodyPost_ret (zv (t := 30) rfl _ _ (b_r2) rfl r2 Tryz.isAgg30 (by kernel_rfl)) rfl ?_) | (go_step; go_step; refine bodyPost_ret (zv (t := 30) rfl _ _ (b_r2) rfl r2 Tryz.isAgg30 (by kernel_rfl)) rfl ?_) | (go_step; go_step; go_step; refine bodyPost_ret (zv (t := 30) rfl _ _ (b_r2) rfl r2 Tryz.isAgg30 (by kernel_rfl)) rfl ?_) | (go_step; go_step; go_step; go_step; refine bodyPost_ret (zv (t := 30) rfl _ _ (b_r2) rfl r2 Tryz.isAgg30 (by kernel_rfl)) rfl ?_) | (go_step; go_step; go_step; go_step; go_step; refine bodyPost_ret (zv (t := 30) rfl _ _ (b_r2) rfl r2 Tryz.isAgg30 (by kernel_rfl)) rfl ?_)
  rw [HS.out]; exact ⟨_, rfl, od.rs, B⟩
 ·have HS := Lib.hid (show S' = ⟨s.pts, s.rad, s.spa, s.col, s.era, val⟩ from by rw [← HE.out]; rw [hx]; simp [Wh, HLN.out])
  have q1 : (C == 1) = false := by rw [hx]; rfl
  have p1 : decide (C = 1) = false := by rw [hx]; rfl
  have q2 : (C == 2) = false := by rw [hx]; rfl
  have p2 : decide (C = 2) = false := by rw [hx]; rfl
  have q3 : (C == 3) = false := by rw [hx]; rfl
  have p3 : decide (C = 3) = false := by rw [hx]; rfl
  have q4 : (C == 4) = false := by rw [hx]; rfl
  have p4 : decide (C = 4) = false := by rw [hx]; rfl
  have q5 : (C == 5) = false := by rw [hx]; rfl
  have p5 : decide (C = 5) = false := by rw [hx]; rfl
  have q6 : (C == 6) = true := by rw [hx]; rfl
  have p6 : decide (C = 6) = true := by rw [hx]; rfl
  have q7 : (C == 7) = false := by rw [hx]; rfl
  have p7 : decide (C = 7) = false := by rw [hx]; rfl
  have q8 : (C == 8) = false := by rw [hx]; rfl
  have p8 : decide (C = 8) = false := by rw [hx]; rfl
  clear HE hx hC0; go_upto_region 4 with fail
  refine wp_region_lit ?_; refine zx 2 ?_; refine wpList_nil ?_; go_upto_region 6 with fail
  refine wp_region_lit ?_; refine zx 2 ?_; refine wpList_nil ?_; go_upto_region 8 with fail
  refine wp_region_lit ?_; refine zx 2 ?_; refine wpList_nil ?_; go_upto_region 10 with fail
  refine wp_region_lit ?_; refine zx 2 ?_; refine wpList_nil ?_; go_upto_region 12 with fail
  refine wp_region_lit ?_; refine zx 2 ?_; refine wpList_nil ?_; go_upto_region 14 with fail
  refine wp_region_lit ?_; refine zx 2 ?_; refine wpList_nil ?_; go_upto_region 15 with fail
  refine wp_region_lit ?_; refine zx 3 ?_
  (refine jw (t := 30) rfl _ _ rfl _ 8 rfl _ rfl r3 rfl (qt B (by omega) ?_); have hnB := od.neT r3 (by decide); clear r3 B; intro wn r3 ze zf zg B; replace od := od.chgB ze hnB; clear hnB; (try replace r1 := r1.of_eq (ze.block _ r1.lt (by omega))); (try replace r2 := r2.of_eq (ze.block _ r2.lt (by omega))); simp only [zn])
  refine wpList_nil ?_; replace r3 : zF 30 _ b_r3 (qw (.slice (some ⟨g, 0, none⟩) n c3) ⟨s.pts, s.rad, s.spa, s.col, s.era, val⟩) := r3; go_upto_region 21 with fail
  refine wp_region_lit ?_; refine zx 1 ?_
  (refine zp (t := 30) rfl _ _ rfl _ rfl _ rfl r2 (by kernel_rfl) rfl (by simp [qw, Value.oneCell']) (qt B (by omega) ?_); clear r2 B; intro wn r2 ze zf zg B; replace od := od.chg ze (by omega); (try replace r1 := r1.of_eq (ze.block _ r1.lt (by omega))); (try replace r3 := r3.of_eq (ze.block _ r3.lt (by omega))); simp only [zn])
  refine wpList_nil ?_; first | (refine bodyPost_ret (zv (t := 30) rfl _ _ (b_r2) rfl r2 Tryz.isAgg30 (by kernel_rfl)) rfl ?_) | (go_step; refine bodyPost_ret (zv (t := 30) rfl _ _ (b_r2) rfl r2 Tryz.isAgg30 (by kernel_rfl)) rfl ?_) | (go_step; go_step; refine bodyPost_ret (zv (t := 30) rfl _ _ (b_r2) rfl r2 Tryz.isAgg30 (by kernel_rfl)) rfl ?_) | (go_step; go_step; go_step; refine bodyPost_ret (zv (t := 30) rfl _ _ (b_r2) rfl r2 Tryz.isAgg30 (by kernel_rfl)) rfl ?_) | (go_step; go_step; go_step; go_step; refine bodyPost_ret (zv (t := 30) rfl _ _ (b_r2) rfl r2 Tryz.isAgg30 (by kernel_rfl)) rfl ?_) | (go_step; go_step; go_step; go_step; go_step; refine bodyPost_ret (zv (t := 30) rfl _ _ (b_r2) rfl r2 Tryz.isAgg30 (by kernel_rfl)) rfl ?_)
  rw [HS.out]; exact ⟨_, rfl, od.rs, B⟩
 ·have HS := Lib.hid (show S' = ⟨[], s.rad, s.spa, s.col, s.era, s.pha⟩ from by rw [← HE.out]; rw [hx]; simp [Wh, HLN.out])
  have q1 : (C == 1) = false := by rw [hx]; rfl
  have p1 : decide (C = 1) = false := by rw [hx]; rfl
  have q2 : (C == 2) = false := by rw [hx]; rfl
  have p2 : decide (C = 2) = false := by rw [hx]; rfl
  have q3 : (C == 3) = false := by rw [hx]; rfl
  have p3 : decide (C = 3) = false := by rw [hx]; rfl
  have q4 : (C == 4) = false := by rw [hx]; rfl
  have p4 : decide (C = 4) = false := by rw [hx]; rfl
  have q5 : (C == 5) = false := by rw [hx]; rfl
  have p5 : decide (C = 5) = false := by rw [hx]; rfl
  have q6 : (C == 6) = false := by rw [hx]; rfl
  have p6 : decide (C = 6) = false := by rw [hx]; rfl
  have q7 : (C == 7) = true := by rw [hx]; rfl
  have p7 : decide (C = 7) = true := by rw [hx]; rfl
  have q8 : (C == 8) = false := by rw [hx]; rfl
  have p8 : decide (C = 8) = false := by rw [hx]; rfl
  clear HE hx hC0; go_upto_region 4 with fail
  refine wp_region_lit ?_; refine zx 2 ?_; refine wpList_nil ?_; go_upto_region 6 with fail
  refine wp_region_lit ?_; refine zx 2 ?_; refine wpList_nil ?_; go_upto_region 8 with fail
  refine wp_region_lit ?_; refine zx 2 ?_; refine wpList_nil ?_; go_upto_region 10 with fail
  refine wp_region_lit ?_; refine zx 2 ?_; refine wpList_nil ?_; go_upto_region 12 with fail
  refine wp_region_lit ?_; refine zx 2 ?_; refine wpList_nil ?_; go_upto_region 14 with fail
  refine wp_region_lit ?_; refine zx 2 ?_; refine wpList_nil ?_; go_upto_region 16 with fail
  refine wp_region_lit ?_; refine zx 2 ?_; refine wpList_nil ?_; go_upto_region 17 with fail
  refine wp_region_lit ?_; refine zx 1 ?_
  (refine jQ (t := 30) rfl _ _ rfl _ 0 rfl _ _ _ rfl r3 rfl (qt B (by omega) ?_); have hnB := od.neT r3 (by decide); clear r3 B; intro wn r3 ze zf zg B; replace od := od.chgB ze hnB; clear hnB; (try replace r1 := r1.of_eq (ze.block _ r1.lt (by omega))); (try replace r2 := r2.of_eq (ze.block _ r2.lt (by omega))); simp only [zn])
  refine wpList_nil ?_; replace r3 : zF 30 _ b_r3 (qw (.slice none 0 0) ⟨[], s.rad, s.spa, s.col, s.era, s.pha⟩) := r3; go_upto_region 21 with fail
  refine wp_region_lit ?_; refine zx 1 ?_
  (refine zp (t := 30) rfl _ _ rfl _ rfl _ rfl r2 (by kernel_rfl) rfl (by simp [qw, Value.oneCell']) (qt B (by omega) ?_); clear r2 B; intro wn r2 ze zf zg B; replace od := od.chg ze (by omega); (try replace r1 := r1.of_eq (ze.block _ r1.lt (by omega))); (try replace r3 := r3.of_eq (ze.block _ r3.lt (by omega))); simp only [zn])
  refine wpList_nil ?_; first | (refine bodyPost_ret (zv (t := 30) rfl _ _ (b_r2) rfl r2 Tryz.isAgg30 (by kernel_rfl)) rfl ?_) | (go_step; refine bodyPost_ret (zv (t := 30) rfl _ _ (b_r2) rfl r2 Tryz.isAgg30 (by kernel_rfl)) rfl ?_) | (go_step; go_step; refine bodyPost_ret (zv (t := 30) rfl _ _ (b_r2) rfl r2 Tryz.isAgg30 (by kernel_rfl)) rfl ?_) | (go_step; go_step; go_step; refine bodyPost_ret (zv (t := 30) rfl _ _ (b_r2) rfl r2 Tryz.isAgg30 (by kernel_rfl)) rfl ?_) | (go_step; go_step; go_step; go_step; refine bodyPost_ret (zv (t := 30) rfl _ _ (b_r2) rfl r2 Tryz.isAgg30 (by kernel_rfl)) rfl ?_) | (go_step; go_step; go_step; go_step; go_step; refine bodyPost_ret (zv (t := 30) rfl _ _ (b_r2) rfl r2 Tryz.isAgg30 (by kernel_rfl)) rfl ?_)
  rw [HS.out]; exact ⟨_, rfl, (zW.nil (E := qD) 0 _).rs, B⟩
 ·have HS := Lib.hid (show S' = ⟨vH s.pts (ofN val - n), s.rad, s.spa, s.col, s.era, s.pha⟩ from by rw [← HE.out]; rw [hx]; simp [Wh, HLN.out])
  have q1 : (C == 1) = false := by rw [hx]; rfl
  have p1 : decide (C = 1) = false := by rw [hx]; rfl
  have q2 : (C == 2) = false := by rw [hx]; rfl
  have p2 : decide (C = 2) = false := by rw [hx]; rfl
  have q3 : (C == 3) = false := by rw [hx]; rfl
  have p3 : decide (C = 3) = false := by rw [hx]; rfl
  have q4 : (C == 4) = false := by rw [hx]; rfl
  have p4 : decide (C = 4) = false := by rw [hx]; rfl
  have q5 : (C == 5) = false := by rw [hx]; rfl
  have p5 : decide (C = 5) = false := by rw [hx]; rfl
  have q6 : (C == 6) = false := by rw [hx]; rfl
  have p6 : decide (C = 6) = false := by rw [hx]; rfl
  have q7 : (C == 7) = false := by rw [hx]; rfl
  have p7 : decide (C = 7) = false := by rw [hx]; rfl
  have q8 : (C == 8) = true := by rw [hx]; rfl
  have p8 : decide (C = 8) = true := by rw [hx]; rfl
  clear HE hx hC0; go_upto_region 4 with fail
  refine wp_region_lit ?_; refine zx 2 ?_; refine wpList_nil ?_; go_upto_region 6 with fail
  refine wp_region_lit ?_; refine zx 2 ?_; refine wpList_nil ?_; go_upto_region 8 with fail
  refine wp_region_lit ?_; refine zx 2 ?_; refine wpList_nil ?_; go_upto_region 10 with fail
  refine wp_region_lit ?_; refine zx 2 ?_; refine wpList_nil ?_; go_upto_region 12 with fail
  refine wp_region_lit ?_; refine zx 2 ?_; refine wpList_nil ?_; go_upto_region 14 with fail
  refine wp_region_lit ?_; refine zx 2 ?_; refine wpList_nil ?_; go_upto_region 16 with fail
  refine wp_region_lit ?_; refine zx 2 ?_; refine wpList_nil ?_; go_upto_region 18 with fail
  refine wp_region_lit ?_; refine zx 2 ?_; refine wpList_nil ?_; have hT : (ofN val : Int) = 64 + val % 2 := by unfold ofN; omega
  have HT := Lib.hid hT; obtain ⟨T, hTT⟩ : ∃ T, ofN val = T := ⟨_, rfl⟩; rw [hTT] at HT HS; clear hT hTT; have hTb : 64 ≤ T ∧ T ≤ 65 := by have := HT.out; omega
  have k6 : b0 ≤ wn.heap.size := by have := (World.ownsRow.lt od g rfl).2; omega
  clear q1 q2 q3 q4 q5 q6 q7 q8 p1 p2 p3 p4 p5 p6 p7 p8 hg3 hgb; go_wp2; go_loopw [] (fun wr => ∃ (k m cp : Nat) (ad : Option Addr) (P : List Sp), Hid (m = n + k) ∧ m ≤ T ∧ Hid (vH s.pts k = P) ∧ Below w.heap.size w wr ∧ b0 ≤ wr.heap.size ∧ zF 24 wr b_r1 #[.slice aL L.length cL, .int .i64 how, .int .i64 val] ∧ zF 30 wr b_r2 #[.slice none 0 0, .int .i64 0, .int .i64 0, .int .u8 0, .int .u8 0, .int .u8 0, .int .u8 0, .bool false, .int .i64 0] ∧ zF 30 wr b_r3 (qw (.slice ad m cp) s) ∧ zW qD b0 (.slice ad m cp) P wr) (fun wr => T - zge (wr.cell? ⟨b_r3, 0, none⟩))
  case atStart => exact ⟨0, n, c3, _, s.pts, Lib.hid (by omega), by omega, Lib.hid (by simp [vH, JU]), B, k6, r1, r2, r3, od⟩
  case round =>
   clear B r1 r2 r3 od k6; obtain ⟨k, m, cp, ad, P, Hm, hmT, HP, B, k6, r1, r2, r3, od⟩ := hrel; have hmP : P.length = m := by rw [← HP.out, Q4, Hm.out, HLN.out]
   have hPm := Lib.hid (show m = P.length from hmP.symm); have HPM := Lib.hid (show (P ++ [(⟨(m : Int), 0, 9⟩ : Sp)]).length = m + 1 from by rw [List.length_append, hmP]; rfl)
   have hPlen : P.length ≤ 65 := by omega
   have HOLD := Lib.hid (VT r3); clear hmP; by_cases zh : m < T
   ·have hmb : (m : Int) < 64 + val % 2 := by have := HT.out; omega
    have q1 : decide ((m : Int) < 64 + val % 2) = true := decide_eq_true hmb; have vb : 0 ≤ val % 2 ∧ val % 2 ≤ 1 := by omega
    have HNX := Lib.hid (show vH s.pts (k + 1) = P ++ [⟨(m : Int), 0, 9⟩] from by rw [Kg, HP.out, HLN.out, ← Hm.out]); go_upto_region 19 with fail
    refine wp_region_lit ?_; refine zx 2 ?_
    refine zw (by first | rfl | simp [Region.wanted, yielded]) rfl Tryz.underlying26 rfl ?_; simp only [zn]; refine zx 5 ?_
    refine wpList_nil ?_; go_upto_region 20 with fail
    refine wp_region_lit ?_; refine zx 4 ?_
    refine zw (by first | rfl | simp [Region.wanted, yielded]) rfl Tryz.underlying26 rfl ?_; simp only [zn]
    (refine zM rfl (.agg #[.int .i64 (m : Int), .int .i64 0, .int .i64 9]) (by first | rfl | kernel_rfl | simp [go_sem, Act.eval]) ?_; simp only [zn])
    (refine vS (E := qD) rfl _ rfl (⟨(m : Int), 0, 9⟩) rfl (by omega) (zV B ?_); clear B; intro b_s79 wn zb zd s79 za zf zk B; replace od := od.below (za.mono zb); (try have zh := r1.lt); (try replace r1 := r1.below (za.mono zb)); (try have zh := r2.lt); (try replace r2 := r2.below (za.mono zb)); (try have zh := r3.lt); (try replace r3 := r3.below (za.mono zb)); simp only [zn])
    (refine y5 rfl _ _ rfl _ _ rfl rfl od (jF.one s79) (by simp only [List.length_cons, List.length_nil]; omega) (by omega) ?_; intro v_od wn ht hg; have zf := B.size; have hbz := hg.size; replace B := yP B zf hg (fun r e => by have := (World.ownsRow.lt od r e).1; omega); replace r1 := r1.grown hg (fun e => od.neT r1 (by decide) _ e rfl); replace r2 := r2.grown hg (fun e => od.neT r2 (by decide) _ e rfl); replace r3 := r3.grown hg (fun e => od.neT r3 (by decide) _ e rfl); clear od s79 hg; have od := ht; clear ht; obtain ⟨a_od, c_od, hv, hco⟩ := od.len; rw [HPM.out] at hv; subst hv; simp only [zn])
    refine zx 1 ?_
    (refine jQ (t := 30) rfl _ _ rfl _ 0 rfl _ _ _ rfl r3 rfl (qt B (by omega) ?_); have hnB := od.neT r3 (by decide); clear r3 B; intro wn r3 ze zf zg B; replace od := od.chgB ze hnB; clear hnB; (try replace r1 := r1.of_eq (ze.block _ r1.lt (by omega))); (try replace r2 := r2.of_eq (ze.block _ r2.lt (by omega))); simp only [zn])
    refine wpList_nil ?_; replace r3 : zF 30 _ b_r3 (qw (.slice a_od (m + 1) c_od) s) := r3; have HNEW := Lib.hid (VT r3); go_wp2; go_roundw
    case rel => exact ⟨k + 1, m + 1, _, _, P ++ [⟨(m : Int), 0, 9⟩], Lib.hid (by rw [Hm.out]; omega), by omega, HNX, B, by omega, r1, r2, r3, od⟩
    case measure => rw [HOLD.out, HNEW.out]; show T - (m + 1) < T - m; omega
   ·have hmb : ¬ (m : Int) < 64 + val % 2 := by have := HT.out; omega
    have q1 : decide ((m : Int) < 64 + val % 2) = false := decide_eq_false hmb; have vb : 0 ≤ val % 2 ∧ val % 2 ≤ 1 := by omega
    have HFI := Lib.hid (show vH s.pts (T - n) = P from by rw [← HP.out]; congr 1; have := Hm.out; omega)
    go_upto_region 19 with fail
    refine wp_region_lit ?_; refine zx 2 ?_
    refine zw (by first | rfl | simp [Region.wanted, yielded]) rfl Tryz.underlying26 rfl ?_; simp only [zn]; refine zx 5 ?_
    refine wpList_nil ?_; go_upto_region 21 with fail
    refine wp_region_lit ?_; refine zx 1 ?_
    (refine zp (t := 30) rfl _ _ rfl _ rfl _ rfl r2 (by kernel_rfl) rfl (by simp [qw, Value.oneCell']) (qt B (by omega) ?_); clear r2 B; intro wn r2 ze zf zg B; replace od := od.chg ze (by omega); (try replace r3 := r3.of_eq (ze.block _ r3.lt (by omega))); simp only [zn])
    refine wpList_nil ?_; first | (refine bodyPost_ret (zv (t := 30) rfl _ _ (b_r2) rfl r2 Tryz.isAgg30 (by kernel_rfl)) rfl ?_) | (go_step; refine bodyPost_ret (zv (t := 30) rfl _ _ (b_r2) rfl r2 Tryz.isAgg30 (by kernel_rfl)) rfl ?_) | (go_step; go_step; refine bodyPost_ret (zv (t := 30) rfl _ _ (b_r2) rfl r2 Tryz.isAgg30 (by kernel_rfl)) rfl ?_) | (go_step; go_step; go_step; refine bodyPost_ret (zv (t := 30) rfl _ _ (b_r2) rfl r2 Tryz.isAgg30 (by kernel_rfl)) rfl ?_) | (go_step; go_step; go_step; go_step; refine bodyPost_ret (zv (t := 30) rfl _ _ (b_r2) rfl r2 Tryz.isAgg30 (by kernel_rfl)) rfl ?_) | (go_step; go_step; go_step; go_step; go_step; refine bodyPost_ret (zv (t := 30) rfl _ _ (b_r2) rfl r2 Tryz.isAgg30 (by kernel_rfl)) rfl ?_)
    rw [HS.out, HFI.out]; exact ⟨_, rfl, od.rs, B⟩
 ·have HS := Lib.hid (show S' = s from by rw [← HE.out]; obtain ⟨h1, h2, h3, h4, h5, h6, h7, h8⟩ := hx; simp [Wh, h1, h2, h3, h4, h5, h6, h7, h8])
  have q1 : (C == 1) = false := by obtain ⟨h1, h2, h3, h4, h5, h6, h7, h8⟩ := hx; simp [h1]
  have p1 : decide (C = 1) = false := by obtain ⟨h1, h2, h3, h4, h5, h6, h7, h8⟩ := hx; simp [h1]
  have q2 : (C == 2) = false := by obtain ⟨h1, h2, h3, h4, h5, h6, h7, h8⟩ := hx; simp [h2]
  have p2 : decide (C = 2) = false := by obtain ⟨h1, h2, h3, h4, h5, h6, h7, h8⟩ := hx; simp [h2]
  have q3 : (C == 3) = false := by obtain ⟨h1, h2, h3, h4, h5, h6, h7, h8⟩ := hx; simp [h3]
  have p3 : decide (C = 3) = false := by obtain ⟨h1, h2, h3, h4, h5, h6, h7, h8⟩ := hx; simp [h3]
  have q4 : (C == 4) = false := by obtain ⟨h1, h2, h3, h4, h5, h6, h7, h8⟩ := hx; simp [h4]
  have p4 : decide (C = 4) = false := by obtain ⟨h1, h2, h3, h4, h5, h6, h7, h8⟩ := hx; simp [h4]
  have q5 : (C == 5) = false := by obtain ⟨h1, h2, h3, h4, h5, h6, h7, h8⟩ := hx; simp [h5]
  have p5 : decide (C = 5) = false := by obtain ⟨h1, h2, h3, h4, h5, h6, h7, h8⟩ := hx; simp [h5]
  have q6 : (C == 6) = false := by obtain ⟨h1, h2, h3, h4, h5, h6, h7, h8⟩ := hx; simp [h6]
  have p6 : decide (C = 6) = false := by obtain ⟨h1, h2, h3, h4, h5, h6, h7, h8⟩ := hx; simp [h6]
  have q7 : (C == 7) = false := by obtain ⟨h1, h2, h3, h4, h5, h6, h7, h8⟩ := hx; simp [h7]
  have p7 : decide (C = 7) = false := by obtain ⟨h1, h2, h3, h4, h5, h6, h7, h8⟩ := hx; simp [h7]
  have q8 : (C == 8) = false := by obtain ⟨h1, h2, h3, h4, h5, h6, h7, h8⟩ := hx; simp [h8]
  have p8 : decide (C = 8) = false := by obtain ⟨h1, h2, h3, h4, h5, h6, h7, h8⟩ := hx; simp [h8]
  clear HE hx hC0; go_upto_region 4 with fail
  refine wp_region_lit ?_; refine zx 2 ?_; refine wpList_nil ?_; go_upto_region 6 with fail
  refine wp_region_lit ?_; refine zx 2 ?_; refine wpList_nil ?_; go_upto_region 8 with fail
  refine wp_region_lit ?_; refine zx 2 ?_; refine wpList_nil ?_; go_upto_region 10 with fail
  refine wp_region_lit ?_; refine zx 2 ?_; refine wpList_nil ?_; go_upto_region 12 with fail
  refine wp_region_lit ?_; refine zx 2 ?_; refine wpList_nil ?_; go_upto_region 14 with fail
  refine wp_region_lit ?_; refine zx 2 ?_; refine wpList_nil ?_; go_upto_region 16 with fail
  refine wp_region_lit ?_; refine zx 2 ?_; refine wpList_nil ?_; go_upto_region 18 with fail
  refine wp_region_lit ?_; refine zx 2 ?_; refine wpList_nil ?_; go_upto_region 21 with fail
  refine wp_region_lit ?_; refine zx 1 ?_
  (refine zp (t := 30) rfl _ _ rfl _ rfl _ rfl r2 (by kernel_rfl) rfl (by simp [qw, Value.oneCell']) (qt B (by omega) ?_); clear r2 B; intro wn r2 ze zf zg B; replace od := od.chg ze (by omega); simp only [zn])
  refine wpList_nil ?_; first | (refine bodyPost_ret (zv (t := 30) rfl _ _ (b_r2) rfl r2 Tryz.isAgg30 (by kernel_rfl)) rfl ?_) | (go_step; refine bodyPost_ret (zv (t := 30) rfl _ _ (b_r2) rfl r2 Tryz.isAgg30 (by kernel_rfl)) rfl ?_) | (go_step; go_step; refine bodyPost_ret (zv (t := 30) rfl _ _ (b_r2) rfl r2 Tryz.isAgg30 (by kernel_rfl)) rfl ?_) | (go_step; go_step; go_step; refine bodyPost_ret (zv (t := 30) rfl _ _ (b_r2) rfl r2 Tryz.isAgg30 (by kernel_rfl)) rfl ?_) | (go_step; go_step; go_step; go_step; refine bodyPost_ret (zv (t := 30) rfl _ _ (b_r2) rfl r2 Tryz.isAgg30 (by kernel_rfl)) rfl ?_) | (go_step; go_step; go_step; go_step; go_step; refine bodyPost_ret (zv (t := 30) rfl _ _ (b_r2) rfl r2 Tryz.isAgg30 (by kernel_rfl)) rfl ?_)
  rw [HS.out]; exact ⟨_, rfl, od.rs, B⟩
theorem zcv (vL : Value) (L : List Int) (how val : Int) (S' : qv) (w : World) (ls : jF inE vL L w) (hn : L.length ≤ 17592186044416) (e : ofS L how val = S') : Calls Tryz.prog 14 #[.agg #[vL, .int .i64 how, .int .i64 val]] w fun e w' => ∃ a c, e = .returned (.agg (qw (.slice a S'.pts.length c) S')) ∧ jF qD (.slice a S'.pts.length c) S'.pts w' ∧ Below w.heap.size w w' :=
 (zd7 vL L how val S' w ls hn e).mono fun e w' ⟨v', h1, h2, h3⟩ => by
  obtain ⟨a, c, rfl, _⟩ := h2.len; exact ⟨_, _, h1, h2, h3⟩
end Go.Proofs.YtepelndbbhdofaaGreatDoor
/- Plain: an image of one raster pasted into another. -/
namespace Go.Proofs.YtepelndbbhdofaaGreatDoor
open Go.RowKit Pl
set_option linter.unusedVariables false
set_option linter.unusedSimpArgs false
end Go.Proofs.YtepelndbbhdofaaGreatDoor
/- Plain: what the laws on painted strokes (StrokeErase, StrokeHalves, StrokeArea) say. -/
namespace Go.Proofs.YtepelndbbhdofaaGreatDoor
open Go.RowKit Pl
set_option linter.unusedVariables false
set_option linter.unusedSimpArgs false
set_option maxRecDepth 20000
/-! ### StrokeErase -/
def zg5 (s : qv) : qv := { s with era := true }
def zhr (s : qv) : qv := { s with era := false, col := ⟨s.col.r, s.col.g, s.col.b, 255⟩ }
/-! ### StrokeHalves -/
/-! ### StrokeArea -/
def zhz (p : Int × Int) : Rc := ⟨8 * p.1, 8 * p.2, 8 * p.1 + 8, 8 * p.2 + 8⟩
/- Plain: what StrokeShift says. -/
def zg0 (X Y : Int) : Rc := ⟨(X - 11) / 8, (Y - 11) / 8, (X + 22) / 8 + 1, (Y + 22) / 8 + 1⟩
end Go.Proofs.YtepelndbbhdofaaGreatDoor
/- Changed of package raster. -/
namespace Go.Proofs.YtepelndbbhdofaaGreatDoor
open Go.RowKit Go.Shelf Pl
set_option linter.unusedVariables false
set_option linter.unusedSimpArgs false
set_option maxRecDepth 20000
def zg9 : Value → Nat
 | .slice _ n _ => n
 | _ => 0
/- Contracts in the shape of chapter 14's laws: pixels by their parts, painting of made strokes. -/
end Go.Proofs.YtepelndbbhdofaaGreatDoor
/- Contracts for the laws on changed strokes: Split in both cases, lists of dabs known by a fact, appends onto an empty row. -/
namespace Go.Proofs.YtepelndbbhdofaaGreatDoor
open Go Go.RowKit Go.Shelf Pl
set_option linter.unusedVariables false
set_option linter.unusedSimpArgs false
set_option maxRecDepth 20000
section
variable {α : Type} {k : Nat} {T ST : TypeId} {E : ZQ α k T ST} {o : Oper} {a : Act} {w : World} {Q : Exit → Act → World → Prop}
/-- A row appended to an empty one of no room: what was stays. -/
theorem X5 {K : Act → World → Prop} (s x : Operand) (ho : o.op = .call { callee := .builtin .append, args := #[s, x], argTypes := #[ST, ST] }) (b : Nat) (u : Value) (hs : a.eval s = .slice (some ⟨b, 0, none⟩) 0 0) (hx : a.eval x = u) {B : Nat} {ks : List α} (hown : zW E B (.slice (some ⟨b, 0, none⟩) 0 0) [] w) (hu : jF E u ks w) (hlen : ks.length ≤ 100000000) (hB : B ≤ w.heap.size)
  (h : ∀ ad c w', zW E B (.slice ad ks.length c) ks w' → Below w.heap.size w w' → K (a.put o.dst (.slice ad ks.length c)) w') : o.wp Tryz.prog a w K Q := by
 obtain ⟨i, z, hi, hz, zf, hby, hzc⟩ := E.facts
 have hzs : z.cells.size = k := by rw [hzc, E.size]
 obtain ⟨cur, hcur⟩ := hown.block (b := b) rfl
 have empty : ∀ ad c, a.eval x = .slice (some ad) 0 c → ks = [] → o.wp Tryz.prog a w K Q := fun ad c hx' hk => by
  subst hk; have hr := run_append_room (P := Tryz.prog) w ST o.type T i E.und hi b 0 0 cur hcur ad 0 c [] (by simp) (fun j u hu => by simp at hu) (by simp) (by omega) (by simp); have e : w.setRow b (cur.toList.take (0 * i.size) ++ [] ++ cur.toList.drop (0 * i.size + ([] : List Value).length)).toArray = w := by
   have e2 : (cur.toList.take (0 * i.size) ++ [] ++ cur.toList.drop (0 * i.size + ([] : List Value).length)).toArray = cur := by simp
   rw [e2]; exact setRow_self w b cur T (0, 0) hcur
  rw [e] at hr; exact Lib.wp_append_run w s x ST ST ho _ _ hs hx' _ w hr (h _ _ w hown (Below.refl _ _))
 rcases hu with ⟨rfl, rfl⟩ | ⟨g, of, c, rfl, hc, sc⟩ | ⟨ad, c, rfl, rfl⟩
 ·have hr := run_append_owned_none (P := Tryz.prog) (w := w) B ST o.type T i k E.und hi _ _ _ hown
  exact Lib.wp_append_run w s x ST ST ho _ _ hs hx _ w hr (h _ _ w hown (Below.refl _ _))
 ·by_cases hk : ks.length = 0
  ·rw [hk] at hx
   exact empty _ _ hx (List.eq_nil_of_length_eq_zero hk)
  ·have hnews : ∀ j u, (jH E ks)[j]? = some u → w.cell? (Addr.add ⟨g, of, none⟩ j) = some u := fun j u hu => by
    rw [QY]; exact (sc (by omega)).row j u hu
   have hm := Nat.mul_le_mul hlen E.small; obtain ⟨v', w', hr, h2, h3, h4⟩ := run_append_own (P := Tryz.prog) w B ST o.type T i z k E.bytes E.und hi hz zf hby hzs E.pos _ 0 (jH E []) hown ⟨g, of, none⟩ ks.length c (jH E ks) (jz E ks) hnews (kV E ks) (by unfold maxLen; omega) (by simp only [Nat.zero_add]; omega) hB
   have hr2 := run_append_grow (P := Tryz.prog) w ST o.type T i z E.und hi hz ⟨b, 0, none⟩ 0 0 [] (by simp) (fun j u hu => by simp at hu) ⟨g, of, none⟩ ks.length c (jH E ks) (by rw [jz, zf]) hnews (by omega) (by omega) (growslice_fits (by omega) (by rw [hby]; simp only [Nat.zero_add]; omega))
   have e := hr2.symm.trans hr
   injection e with e1 e2
   subst e2; subst e1; simp only [Nat.zero_add] at h2 hr; refine Lib.wp_append_run w s x ST ST ho _ _ hs hx _ _ hr (h _ _ _ ?_ ((Below.refl _ _).drew.alloc (Nat.le_refl _) _)); exact h2
 ·exact empty _ _ hx rfl
/-- An empty row of the call's own. -/
theorem zbL {K : Act → World → Prop} (ho : o.op = .buildSlice 35 0 #[])
  (h : ∀ b w', w.heap.size ≤ b → zW kx b (.slice (some ⟨b, 0, none⟩) 0 0) [] w' → Below w.heap.size w w' → K (a.put o.dst (.slice (some ⟨b, 0, none⟩) 0 0)) w') : o.wp Tryz.prog a w K Q := by
 unfold Oper.wp
 rw [Yt w o ho]
 exact h _ _ (Nat.le_refl _) ⟨rfl, .inr ⟨w.heap.size, 0, #[], rfl, Nat.le_refl _, by rw [zI, if_pos rfl], Nat.le_refl _, by unfold maxLen; omega, rfl, rfl⟩⟩ ((Below.refl _ _).alloc (Nat.le_refl _) _)
end
/-- A list of dabs handed back. -/
def zcZ (D : List Db) : jo := ⟨Option Addr × Nat, ⟨(none, 0)⟩, fun p => .slice p.1 D.length p.2, fun p w => jF kx (.slice p.1 D.length p.2) D w, fun _ _ _ hb h => h.below hb⟩
def zdU (B : Nat) : jo := ⟨Nat, ⟨0⟩, fun b => .slice (some ⟨b, 0, none⟩) 0 0, fun b w => zW kx B (.slice (some ⟨b, 0, none⟩) 0 0) [] w, fun _ _ _ hb h => h.below hb⟩
def zfm (B : Nat) (D : List Db) : jo := ⟨Option Addr × Nat, ⟨(none, 0)⟩, fun p => .slice p.1 D.length p.2, fun p w => zW kx B (.slice p.1 D.length p.2) D w, fun _ _ _ hb h => h.below hb⟩
/-! ### Split -/
def u9 (s : qv) (z : Int) : qv × qv × Int := if qM s = true ∧ 1 ≤ z ∧ z + 2 ≤ s.pts.length then (u7 s z.toNat, uh s z.toNat, 0) else (qv.none, qv.none, 1)
theorem Xb {s : qv} {k : Nat} (hv : qM s = true) (h1 : 1 ≤ k) (h2 : k + 2 ≤ s.pts.length) : u9 s (k : Int) = (u7 s k, uh s k, 0) := by
 unfold u9
 rw [if_pos ⟨hv, by omega, by omega⟩, Int.toNat_natCast]
theorem KL {s : qv} {z : Int} (h : qM s = false ∨ z < 1 ∨ (s.pts.length : Int) - 2 < z) : u9 s z = (qv.none, qv.none, 1) := by
 unfold u9
 rw [if_neg]
 rintro ⟨h1, h2, h3⟩
 rcases h with h | h | h
 ·rw [h1] at h; cases h
 ·omega
 ·omega
theorem Za (s : qv) (z : Int) : (∃ k : Nat, z = (k : Int) ∧ qM s = true ∧ 1 ≤ k ∧ k + 2 ≤ s.pts.length) ∨ (qM s = false ∨ z < 1 ∨ (s.pts.length : Int) - 2 < z) := by
 cases hv : qM s with
 | false => exact .inr (.inl rfl)
 | true =>
  by_cases h1 : z < 1
  ·exact .inr (.inr (.inl h1))
  ·by_cases h2 : (s.pts.length : Int) - 2 < z
   ·exact .inr (.inr (.inr h2))
   ·exact .inl ⟨z.toNat, by omega, rfl, by omega, by omega⟩
theorem VS {s A C : qv} {z E : Int} (e : u9 s z = (A, C, E)) : A.pts.length ≤ s.pts.length ∧ C.pts.length ≤ s.pts.length ∧ A.pts.length ≤ s.pts.length := by
 unfold u9 at e
 split at e
 ·cases e
  refine ⟨?_, ?_, ?_⟩
  ·show (List.take _ _).length ≤ _; rw [List.length_take]; omega
  ·show (List.drop _ _).length ≤ _; rw [List.length_drop]; omega
  ·show (List.take _ _).length ≤ _; rw [List.length_take]; omega
 ·cases e
  exact ⟨Nat.zero_le _, Nat.zero_le _, Nat.zero_le _⟩
theorem zeP {s A C : qv} {z E : Int} (e : u9 s z = (A, C, E)) (h0 : E = 0) : qM A = true ∧ qM C = true ∧ yd A ++ yd C = yd s := by
 rcases Za s z with ⟨k, rfl, hv, h1, h2⟩ | hno
 ·rw [Xb hv h1 h2] at e
  cases e
  have vs := (jj s).1 hv; have vA : qM (u7 s k) = true := (jj _).2 (zca vs (by omega)); have vB : qM (uh s k) = true := (jj _).2 (zcb vs (by omega)); refine ⟨vA, vB, ?_⟩; unfold yd; rw [if_pos vA, if_pos vB, if_pos hv]; exact Ke vs h1 h2
 ·rw [KL hno] at e
  cases e
  cases h0
theorem zfS {s A C : qv} {z E : Int} (e : u9 s z = (A, C, E)) : E = 0 ∨ E = 1 := by
 unfold u9 at e
 split at e
 ·cases e; exact .inl rfl
 ·cases e; exact .inr rfl
theorem Xw (v : Value) (s : qv) (z : Int) (A C : qv) (E : Int) (w : World) (rs : jF qD v s.pts w) (hn : s.pts.length ≤ 17592186044416) (e : u9 s z = (A, C, E)) : Calls Tryz.prog 26 #[.agg (qw v s), .int .i64 z] w fun e w' => ∃ aa na ca ab nb cb, e = .returned (.tuple #[.agg (qw (.slice aa na ca) A), .agg (qw (.slice ab nb cb) C), .int .i64 E]) ∧ zW qD w.heap.size (.slice aa na ca) A.pts w' ∧ zW qD w.heap.size (.slice ab nb cb) C.pts w' ∧ Below w.heap.size w w' := by
 rcases Za s z with ⟨k, rfl, hv, h1, h2⟩ | hno
 ·rw [Xb hv h1 h2] at e
  cases e
  exact (ZT v s k w rs hv h1 h2).mono fun e w' ⟨va, vb, e1, h3, h4, h5⟩ => by
   obtain ⟨a, c, rfl, _⟩ := h3.len; obtain ⟨a', c', rfl, _⟩ := h4.len; exact ⟨_, _, _, _, _, _, e1, h3, h4, h5⟩
 ·rw [KL hno] at e
  cases e
  exact (Y0 v s z w rs hn hno).mono fun e w' ⟨va, vb, e1, h3, h4, h5⟩ => by
   obtain ⟨a, c, rfl, _⟩ := h3.len; obtain ⟨a', c', rfl, _⟩ := h4.len; exact ⟨_, _, _, _, _, _, e1, h3, h4, h5⟩
theorem XC (v : Value) (s : qv) (z : Int) (A C : qv) (E : Int) (w : World) (rs : jF qD v s.pts w) (hn : s.pts.length ≤ 17592186044416) (e : u9 s z = (A, C, E)) : Calls Tryz.prog 27 #[.agg (qw v s), .int .i64 z] w fun e w' => ∃ aa na ca ab nb cb, e = .returned (.agg (Qk (.slice aa na ca) A (.slice ab nb cb) C E)) ∧ zW qD w.heap.size (.slice aa na ca) A.pts w' ∧ zW qD w.heap.size (.slice ab nb cb) C.pts w' ∧ Below w.heap.size w w' := by
 rcases Za s z with ⟨k, rfl, hv, h1, h2⟩ | hno
 ·rw [Xb hv h1 h2] at e
  cases e
  exact (Y3 v s k w rs hv h1 h2).mono fun e w' ⟨va, vb, e1, h3, h4, h5⟩ => by
   obtain ⟨a, c, rfl, _⟩ := h3.len; obtain ⟨a', c', rfl, _⟩ := h4.len; exact ⟨_, _, _, _, _, _, e1, h3, h4, h5⟩
 ·rw [KL hno] at e
  cases e
  exact (Y2 v s z w rs hn hno).mono fun e w' ⟨va, vb, e1, h3, h4, h5⟩ => by
   obtain ⟨a, c, rfl, _⟩ := h3.len; obtain ⟨a', c', rfl, _⟩ := h4.len; exact ⟨_, _, _, _, _, _, e1, h3, h4, h5⟩
section
variable {t : TypeId} {w : World} {b : Nat} {v u : Value} {s r : qv} {n : Int}
theorem Yb (h : zF t w b (Qk v s u r n)) : (Instr.loadAt 30 (.pointer (some ⟨b, 0, none⟩))).run Tryz.prog w = .ok (.agg (qw v s)) w :=
 yz h 0 Tryz.isAgg30 (by kernel_rfl) (fun j hj => by
  have hj : j < 9 := hj
  match j, hj with
  | 0, _ => rfl
  | 1, _ => rfl
  | 2, _ => rfl
  | 3, _ => rfl
  | 4, _ => rfl
  | 5, _ => rfl
  | 6, _ => rfl
  | 7, _ => rfl
  | 8, _ => rfl)
theorem Yc (h : zF t w b (Qk v s u r n)) : (Instr.loadAt 30 (.pointer (some ⟨b, 9, none⟩))).run Tryz.prog w = .ok (.agg (qw u r)) w :=
 yz h 9 Tryz.isAgg30 (by kernel_rfl) (fun j hj => by
  have hj : j < 9 := hj
  match j, hj with
  | 0, _ => rfl
  | 1, _ => rfl
  | 2, _ => rfl
  | 3, _ => rfl
  | 4, _ => rfl
  | 5, _ => rfl
  | 6, _ => rfl
  | 7, _ => rfl
  | 8, _ => rfl)
theorem J6 {w : World} {b j : Nat} {z : Value} (h : w.cell? ⟨b, j, none⟩ = some z) : (Instr.loadAt 53 (.pointer (some ⟨b, j, none⟩))).run Tryz.prog w = .ok z w := by
 simp [go_sem, h]
theorem zfK (h : zF t w b (Qk v s u r n)) : (Instr.loadAt 53 (.pointer (some ⟨b, 18, none⟩))).run Tryz.prog w = .ok (.int .i64 n) w := J6 (h.cell 18 rfl)
end
end Go.Proofs.YtepelndbbhdofaaGreatDoor
namespace Go.Proofs.YtepelndbbhdofaaGreatDoor
open Go.RowKit Go.Shelf Pl
set_option linter.unusedVariables false
set_option linter.unusedSimpArgs false
set_option maxRecDepth 20000
set_option maxHeartbeats 8000000 in
theorem Zb (vL : Value) (L : List Int) (how val at_ : Int) (w : World) (lm : xz w) (hL : jF inE vL L w) (hLn : L.length ≤ 17592186044416) : Calls Tryz.prog 6 #[.agg #[vL, .int .i64 how, .int .i64 val], .int .i64 at_] w fun e w' => e = .returned (.bool true) ∧ Below w.heap.size w w' := by
 have B := Below.refl w.heap.size w
 obtain ⟨aL, cL, rfl, hcL⟩ := hL.len
 have OF := Lib.hid (fun w' (h : Below w.heap.size w w') => zcv _ L how val _ w' (hL.below h) hLn rfl)
 have SL := zdt L how val
 obtain ⟨S, hS⟩ : ∃ S, ofS L how val = S := ⟨_, rfl⟩
 rw [hS] at OF SL
 clear hS hL
 have SN := Lib.hid (show S.pts.length ≤ 17592186044416 by omega)
 obtain ⟨n, hn⟩ : ∃ n : Nat, S.pts.length = n := ⟨_, rfl⟩
 rw [hn] at OF
 have HN := Lib.hid hn
 have hnl : n ≤ 65 := by omega
 clear hn SL
 obtain ⟨⟨A1, C1, E1⟩, hs1⟩ : ∃ x, u9 S at_ = x := ⟨_, rfl⟩
 have HS1 := Lib.hid hs1
 have hl1 := VS hs1
 rw [HN.out] at hl1
 have LA1 := Lib.hid (show A1.pts.length ≤ 1000000 by omega)
 have LC1 := Lib.hid (show C1.pts.length ≤ 1000000 by omega)
 clear hs1 hl1
 obtain ⟨V, hV, V1, V2⟩ := Wz at_
 have q1 : (E1 != E1) = false := by simp
 go_enter Tryz.func6, Tryz.ntmps6
 go_upto_region 0 with fail
 refine wp_region_lit ?_
 try simp only [zN]
 (refine zt (t := 24) rfl _ rfl _ rfl (zV B ?_); clear B; intro b_r2 wn zb zd r2 za zf zk B; (try have zh := lm.lt); (try replace lm := lm.below (za.mono zb)); simp only [zn])
 refine zx 1 ?_
 refine wpList_nil ?_
 go_upto_region 1 with fail
 refine wp_region_lit ?_
 try simp only [zN]
 refine qE (enters_of Tryz.func13 (by kernel_rfl) rfl) (c := zb7 _ lm) (h := ?_)
 rintro e wn ⟨rfl, za⟩
 have zf := B.size
 have zg := za.size
 replace B := B.trans (za.mono B.size)
 (try replace lm := lm.below za)
 (try replace r2 := r2.below za)
 refine ⟨_, rfl, ?_⟩
 simp only [zn]
 refine zx 1 ?_
 refine wpList_nil ?_
 go_upto_region 2 with fail
 refine wp_region_lit ?_
 try simp only [zN]
 refine zx 1 ?_
 refine qE (enters_of Tryz.func14 (by kernel_rfl) rfl) (c := OF.out _ B) (h := ?_)
 rintro e wn ⟨a2, c2, rfl, rs, za⟩
 have zf := B.size
 have zg := za.size
 replace B := B.trans (za.mono B.size)
 (try replace lm := lm.below za)
 (try replace r2 := r2.below za)
 refine ⟨_, rfl, ?_⟩
 simp only [zn]
 clear r2
 obtain ⟨wK, hK⟩ : ∃ z, z = wn := ⟨_, rfl⟩
 subst hK
 have BG := B
 have hwsK := BG.size
 have B := Below.refl wK.heap.size wK
 have H_lm := Lib.hid lm
 have H_rs := Lib.hid rs
 try simp only [zN]
 (refine zr (t := 30) rfl _ (zG _ _ rfl) (zV B ?_); clear B; intro b_r6 wn zb zd r6 za zf zk B; simp only [zn])
 (refine zp (t := 30) rfl _ _ rfl _ rfl _ rfl r6 (by kernel_rfl) rfl (by simp [qw, Value.oneCell']) (qt B (by omega) ?_); clear r6 B; intro wn r6 ze zf zg B; simp only [zn])
 refine wpList_nil ?_
 clear lm
 clear rs
 have lm := by first | exact H_lm.out.below B | exact H_lm.out.of_eq (B.block _ H_lm.out.lt)
 have rs := by first | exact H_rs.out.below B | exact H_rs.out.of_eq (B.block _ H_rs.out.lt)
 clear H_lm
 clear H_rs
 have B0 := BG.trans (B.mono hwsK)
 clear B BG hwsK
 have B := B0
 clear B0
 clear OF lm
 go_upto_region 3 with fail
 refine wp_region_lit ?_
 try simp only [zN]
 refine zx 2 ?_
 refine qE (enters_of Tryz.func26 (by kernel_rfl) rfl) (c := Xw _ S _ A1 C1 E1 _ rs SN.out HS1.out) (h := ?_)
 rintro e wn ⟨aa, na, ca, ab, nb, cb, rfl, oA, oB, za⟩
 have zf := B.size
 have zg := za.size
 replace B := B.trans (za.mono B.size)
 (try replace rs := rs.below za)
 (try replace r6 := r6.below za)
 have nA1 := oA.rs
 have nC1 := oB.rs
 clear oA oB
 refine ⟨_, rfl, ?_⟩
 simp only [zn]
 refine zx 4 ?_
 obtain ⟨wK, hK⟩ : ∃ z, z = wn := ⟨_, rfl⟩
 subst hK
 have BG := B
 have hwsK := BG.size
 have B := Below.refl wK.heap.size wK
 have H_rs := Lib.hid rs
 have H_r6 := Lib.hid r6
 have H_nA1 := Lib.hid nA1
 have H_nC1 := Lib.hid nC1
 try simp only [zN]
 (refine zr (t := 30) rfl _ (zG _ _ rfl) (zV B ?_); clear B; intro b_r7 wn zb zd r7 za zf zk B; simp only [zn])
 (have _ := r7.lt; refine zr (t := 30) rfl _ (zG _ _ rfl) (zV B ?_); clear B; intro b_r8 wn zb zd r8 za zf zk B; (try have zh := r7.lt); (try replace r7 := r7.below (za.mono zb)); simp only [zn])
 (refine zp (t := 30) rfl _ _ rfl _ rfl _ rfl r7 (by kernel_rfl) rfl (by simp [qw, Value.oneCell']) (qt B (by omega) ?_); clear r7 B; intro wn r7 ze zf zg B; (try replace r8 := r8.of_eq (ze.block _ r8.lt (by omega))); simp only [zn])
 (refine zp (t := 30) rfl _ _ rfl _ rfl _ rfl r8 (by kernel_rfl) rfl (by simp [qw, Value.oneCell']) (qt B (by omega) ?_); clear r8 B; intro wn r8 ze zf zg B; (try replace r7 := r7.of_eq (ze.block _ r7.lt (by omega))); simp only [zn])
 refine zx 1 ?_
 refine wpList_nil ?_
 clear rs
 clear r6
 clear nA1
 clear nC1
 have rs := by first | exact H_rs.out.below B | exact H_rs.out.of_eq (B.block _ H_rs.out.lt)
 have r6 := by first | exact H_r6.out.below B | exact H_r6.out.of_eq (B.block _ H_r6.out.lt)
 have nA1 := by first | exact H_nA1.out.below B | exact H_nA1.out.of_eq (B.block _ H_nA1.out.lt)
 have nC1 := by first | exact H_nC1.out.below B | exact H_nC1.out.of_eq (B.block _ H_nC1.out.lt)
 clear H_rs
 clear H_r6
 clear H_nA1
 clear H_nC1
 have B0 := BG.trans (B.mono hwsK)
 clear B BG hwsK
 have B := B0
 clear B0
 go_upto_region 4 with fail
 refine wp_region_lit ?_
 try simp only [zN]
 refine zx 2 ?_
 refine qE (enters_of Tryz.func27 (by kernel_rfl) rfl) (c := XC _ S _ A1 C1 E1 _ rs SN.out HS1.out) (h := ?_)
 rintro e wn ⟨ac, nc, cc, ad, nd, cd, rfl, oA, oB, za⟩
 have zf := B.size
 have zg := za.size
 replace B := B.trans (za.mono B.size)
 (try replace rs := rs.below za)
 (try replace r6 := r6.below za)
 (try replace nA1 := nA1.below za)
 (try replace nC1 := nC1.below za)
 (try replace r7 := r7.below za)
 (try replace r8 := r8.below za)
 have pA1 := oA.rs
 have pC1 := oB.rs
 clear oA oB
 refine ⟨_, rfl, ?_⟩
 simp only [zn]
 obtain ⟨wK, hK⟩ : ∃ z, z = wn := ⟨_, rfl⟩
 subst hK
 have BG := B
 have hwsK := BG.size
 have B := Below.refl wK.heap.size wK
 have H_rs := Lib.hid rs
 have H_r6 := Lib.hid r6
 have H_nA1 := Lib.hid nA1
 have H_nC1 := Lib.hid nC1
 have H_r7 := Lib.hid r7
 have H_r8 := Lib.hid r8
 have H_pA1 := Lib.hid pA1
 have H_pC1 := Lib.hid pC1
 try simp only [zN]
 (refine zr (t := 57) rfl _ (xq _ _ rfl) (zV B ?_); clear B; intro b_r10 wn zb zd r10 za zf zk B; simp only [zn])
 (refine zp (t := 57) rfl _ _ rfl _ rfl _ rfl r10 (by kernel_rfl) rfl (by simp [qw, Qk, Value.oneCell']) (qt B (by omega) ?_); clear r10 B; intro wn r10 ze zf zg B; simp only [zn])
 refine wpList_nil ?_
 clear rs
 clear r6
 clear nA1
 clear nC1
 clear r7
 clear r8
 clear pA1
 clear pC1
 have rs := by first | exact H_rs.out.below B | exact H_rs.out.of_eq (B.block _ H_rs.out.lt)
 have r6 := by first | exact H_r6.out.below B | exact H_r6.out.of_eq (B.block _ H_r6.out.lt)
 have nA1 := by first | exact H_nA1.out.below B | exact H_nA1.out.of_eq (B.block _ H_nA1.out.lt)
 have nC1 := by first | exact H_nC1.out.below B | exact H_nC1.out.of_eq (B.block _ H_nC1.out.lt)
 have r7 := by first | exact H_r7.out.below B | exact H_r7.out.of_eq (B.block _ H_r7.out.lt)
 have r8 := by first | exact H_r8.out.below B | exact H_r8.out.of_eq (B.block _ H_r8.out.lt)
 have pA1 := by first | exact H_pA1.out.below B | exact H_pA1.out.of_eq (B.block _ H_pA1.out.lt)
 have pC1 := by first | exact H_pC1.out.below B | exact H_pC1.out.of_eq (B.block _ H_pC1.out.lt)
 clear H_rs
 clear H_r6
 clear H_nA1
 clear H_nC1
 clear H_r7
 clear H_r8
 clear H_pA1
 clear H_pC1
 have B0 := BG.trans (B.mono hwsK)
 clear B BG hwsK
 have B := B0
 clear B0
 go_upto_region 5 with fail
 refine wp_region_lit ?_
 try simp only [zN]
 refine zx 1 ?_
 refine wpList_nil ?_
 go_upto_region 6 with fail
 obtain ⟨bb, hbb⟩ : ∃ b, decide (0 < n) = b := ⟨_, rfl⟩
 have HBB := Lib.hid hbb
 have d1 : decide ((0 : Int) < (n : Int)) = bb := by rw [← hbb]; exact decide_eq_decide.2 (by omega)
 have d2 : decide ((n : Int) > 0) = bb := d1
 have d3 : decide (0 < n) = bb := hbb
 clear hbb
 refine wp_region_lit ?_
 try simp only [zN]
 refine zx 2 ?_
 refine zw (by first | rfl | simp [Region.wanted, yielded]) rfl Tryz.underlying26 rfl ?_
 simp only [zn]
 refine zx 1 ?_
 refine wpList_nil ?_
 clear d1 d2 d3
 go_upto_if 33 with fail
 go_cut [11] from 34 to 39 (fun s11 wr => ∃ k : Nat, s11 = .int .i64 (k : Int) ∧ Below w.heap.size w wr ∧ jF qD (.slice a2 n c2) S.pts wr ∧ zF 30 wr b_r6 (qw (.slice a2 n c2) S) ∧ jF qD (.slice aa na ca) A1.pts wr ∧ jF qD (.slice ab nb cb) C1.pts wr ∧ zF 30 wr b_r7 (qw (.slice aa na ca) A1) ∧ zF 30 wr b_r8 (qw (.slice ab nb cb) C1) ∧ jF qD (.slice ac nc cc) A1.pts wr ∧ jF qD (.slice ad nd cd) C1.pts wr ∧ zF 57 wr b_r10 (Qk (.slice ac nc cc) A1 (.slice ad nd cd) C1 E1))
 case first =>
  cases bb with
  | true =>
   have h0 : 0 < n := of_decide_eq_true HBB.out; have e0 : (n : Int) ≠ 0 := by omega
   have e00 : ((n : Int) == 0) = false := by simp; omega
   obtain ⟨k, hk⟩ : ∃ k : Nat, V % (n : Int) = (k : Int) := ⟨(V % (n : Int)).toNat, (Int.toNat_of_nonneg (Int.emod_nonneg _ e0)).symm⟩; have t1 : Int.tmod V (n : Int) = (k : Int) := by rw [Int.tmod_eq_emod_of_nonneg V1]; exact hk
   clear hk; go_upto_region 7 with fail
   refine wp_region_lit ?_; try simp only [zN]
   refine zx 4 ?_
   refine zw (by first | rfl | simp [Region.wanted, yielded]) rfl Tryz.underlying26 rfl ?_; simp only [zn]; refine zx 2 ?_; refine wpList_nil ?_; go_wp2_with fail
   go_meet; exact ⟨k, rfl, B, rs, r6, nA1, nC1, r7, r8, pA1, pC1, r10⟩
  | false =>
   go_wp2_with fail
   go_meet; exact ⟨0, rfl, B, rs, r6, nA1, nC1, r7, r8, pA1, pC1, r10⟩
 case rest =>
  clear B rs r6 nA1 nC1 r7 r8 pA1 pC1 r10 hV; obtain ⟨k, rfl, B, rs, r6, nA1, nC1, r7, r8, pA1, pC1, r10⟩ := hcut; obtain ⟨⟨A2, C2, E2⟩, hs2⟩ : ∃ x, u9 S (k : Int) = x := ⟨_, rfl⟩; have HS2 := Lib.hid hs2; have hl2 := VS hs2; rw [HN.out] at hl2; have LA2 := Lib.hid (show A2.pts.length ≤ 1000000 by omega); have LC2 := Lib.hid (show C2.pts.length ≤ 1000000 by omega); have MA2 := Lib.hid (show A2.pts.length ≤ 17592186044416 by omega); have MC2 := Lib.hid (show C2.pts.length ≤ 17592186044416 by omega); have HOK := Lib.hid (fun h0 => zeP hs2 h0); have HE2 := Lib.hid (zfS hs2); clear hs2 hl2; have q2 : (E2 != E2) = false := by simp
  go_upto_region 8 with fail
  refine wp_region_lit ?_; try simp only [zN]
  refine zx 2 ?_
  refine qE (enters_of Tryz.func26 (by kernel_rfl) rfl) (c := Xw _ S _ A2 C2 E2 _ rs SN.out HS2.out) (h := ?_); rintro e wn ⟨ae, ne, ce, af, nf, cf, rfl, oA, oB, za⟩; have zf := B.size; have zg := za.size; replace B := B.trans (za.mono B.size)
  (try replace rs := rs.below za)
  (try replace r6 := r6.below za)
  (try replace nA1 := nA1.below za)
  (try replace nC1 := nC1.below za)
  (try replace r7 := r7.below za)
  (try replace r8 := r8.below za)
  (try replace pA1 := pA1.below za)
  (try replace pC1 := pC1.below za)
  (try replace r10 := r10.below za)
  have nA2 := oA.rs; have nC2 := oB.rs; clear oA oB; refine ⟨_, rfl, ?_⟩; simp only [zn]; refine zx 4 ?_; obtain ⟨wK, hK⟩ : ∃ z, z = wn := ⟨_, rfl⟩; subst hK; have BG := B; have hwsK := BG.size; have B := Below.refl wK.heap.size wK; have H_rs := Lib.hid rs; have H_r6 := Lib.hid r6; have H_nA1 := Lib.hid nA1; have H_nC1 := Lib.hid nC1; have H_r7 := Lib.hid r7; have H_r8 := Lib.hid r8; have H_pA1 := Lib.hid pA1; have H_pC1 := Lib.hid pC1; have H_r10 := Lib.hid r10; have H_nA2 := Lib.hid nA2; have H_nC2 := Lib.hid nC2; try simp only [zN]
  (refine zr (t := 30) rfl _ (zG _ _ rfl) (zV B ?_); clear B; intro b_r12 wn zb zd r12 za zf zk B; simp only [zn])
  (have _ := r12.lt; refine zr (t := 30) rfl _ (zG _ _ rfl) (zV B ?_); clear B; intro b_r13 wn zb zd r13 za zf zk B; (try have zh := r12.lt); (try replace r12 := r12.below (za.mono zb)); simp only [zn])
  (refine zp (t := 30) rfl _ _ rfl _ rfl _ rfl r12 (by kernel_rfl) rfl (by simp [qw, Value.oneCell']) (qt B (by omega) ?_); clear r12 B; intro wn r12 ze zf zg B; (try replace r13 := r13.of_eq (ze.block _ r13.lt (by omega))); simp only [zn])
  (refine zp (t := 30) rfl _ _ rfl _ rfl _ rfl r13 (by kernel_rfl) rfl (by simp [qw, Value.oneCell']) (qt B (by omega) ?_); clear r13 B; intro wn r13 ze zf zg B; (try replace r12 := r12.of_eq (ze.block _ r12.lt (by omega))); simp only [zn])
  refine zx 1 ?_; refine wpList_nil ?_; clear rs; clear r6; clear nA1; clear nC1; clear r7; clear r8; clear pA1; clear pC1; clear r10; clear nA2; clear nC2; have rs := by first | exact H_rs.out.below B | exact H_rs.out.of_eq (B.block _ H_rs.out.lt)
  have r6 := by first | exact H_r6.out.below B | exact H_r6.out.of_eq (B.block _ H_r6.out.lt)
  have nA1 := by first | exact H_nA1.out.below B | exact H_nA1.out.of_eq (B.block _ H_nA1.out.lt)
  have nC1 := by first | exact H_nC1.out.below B | exact H_nC1.out.of_eq (B.block _ H_nC1.out.lt)
  have r7 := by first | exact H_r7.out.below B | exact H_r7.out.of_eq (B.block _ H_r7.out.lt)
  have r8 := by first | exact H_r8.out.below B | exact H_r8.out.of_eq (B.block _ H_r8.out.lt)
  have pA1 := by first | exact H_pA1.out.below B | exact H_pA1.out.of_eq (B.block _ H_pA1.out.lt)
  have pC1 := by first | exact H_pC1.out.below B | exact H_pC1.out.of_eq (B.block _ H_pC1.out.lt)
  have r10 := by first | exact H_r10.out.below B | exact H_r10.out.of_eq (B.block _ H_r10.out.lt)
  have nA2 := by first | exact H_nA2.out.below B | exact H_nA2.out.of_eq (B.block _ H_nA2.out.lt)
  have nC2 := by first | exact H_nC2.out.below B | exact H_nC2.out.of_eq (B.block _ H_nC2.out.lt)
  clear H_rs; clear H_r6; clear H_nA1; clear H_nC1; clear H_r7; clear H_r8; clear H_pA1; clear H_pC1; clear H_r10; clear H_nA2; clear H_nC2; have B0 := BG.trans (B.mono hwsK); clear B BG hwsK; have B := B0; clear B0; go_upto_region 9 with fail
  refine wp_region_lit ?_; try simp only [zN]
  refine zx 2 ?_
  refine qE (enters_of Tryz.func27 (by kernel_rfl) rfl) (c := XC _ S _ A2 C2 E2 _ rs SN.out HS2.out) (h := ?_); rintro e wn ⟨ag, ng, cg, ah, nh, ch, rfl, oA, oB, za⟩; have zf := B.size; have zg := za.size; replace B := B.trans (za.mono B.size)
  (try replace rs := rs.below za)
  (try replace r6 := r6.below za)
  (try replace nA1 := nA1.below za)
  (try replace nC1 := nC1.below za)
  (try replace r7 := r7.below za)
  (try replace r8 := r8.below za)
  (try replace pA1 := pA1.below za)
  (try replace pC1 := pC1.below za)
  (try replace r10 := r10.below za)
  (try replace nA2 := nA2.below za)
  (try replace nC2 := nC2.below za)
  (try replace r12 := r12.below za)
  (try replace r13 := r13.below za)
  have pA2 := oA.rs; have pC2 := oB.rs; clear oA oB; refine ⟨_, rfl, ?_⟩; simp only [zn]; obtain ⟨wK, hK⟩ : ∃ z, z = wn := ⟨_, rfl⟩; subst hK; have BG := B; have hwsK := BG.size; have B := Below.refl wK.heap.size wK; have H_rs := Lib.hid rs; have H_r6 := Lib.hid r6; have H_nA1 := Lib.hid nA1; have H_nC1 := Lib.hid nC1; have H_r7 := Lib.hid r7; have H_r8 := Lib.hid r8; have H_pA1 := Lib.hid pA1; have H_pC1 := Lib.hid pC1; have H_r10 := Lib.hid r10; have H_nA2 := Lib.hid nA2; have H_nC2 := Lib.hid nC2; have H_r12 := Lib.hid r12; have H_r13 := Lib.hid r13; have H_pA2 := Lib.hid pA2; have H_pC2 := Lib.hid pC2; try simp only [zN]
  (refine zr (t := 57) rfl _ (xq _ _ rfl) (zV B ?_); clear B; intro b_r15 wn zb zd r15 za zf zk B; simp only [zn])
  (refine zp (t := 57) rfl _ _ rfl _ rfl _ rfl r15 (by kernel_rfl) rfl (by simp [qw, Qk, Value.oneCell']) (qt B (by omega) ?_); clear r15 B; intro wn r15 ze zf zg B; simp only [zn])
  refine wpList_nil ?_; clear rs; clear r6; clear nA1; clear nC1; clear r7; clear r8; clear pA1; clear pC1; clear r10; clear nA2; clear nC2; clear r12; clear r13; clear pA2; clear pC2; have rs := by first | exact H_rs.out.below B | exact H_rs.out.of_eq (B.block _ H_rs.out.lt)
  have r6 := by first | exact H_r6.out.below B | exact H_r6.out.of_eq (B.block _ H_r6.out.lt)
  have nA1 := by first | exact H_nA1.out.below B | exact H_nA1.out.of_eq (B.block _ H_nA1.out.lt)
  have nC1 := by first | exact H_nC1.out.below B | exact H_nC1.out.of_eq (B.block _ H_nC1.out.lt)
  have r7 := by first | exact H_r7.out.below B | exact H_r7.out.of_eq (B.block _ H_r7.out.lt)
  have r8 := by first | exact H_r8.out.below B | exact H_r8.out.of_eq (B.block _ H_r8.out.lt)
  have pA1 := by first | exact H_pA1.out.below B | exact H_pA1.out.of_eq (B.block _ H_pA1.out.lt)
  have pC1 := by first | exact H_pC1.out.below B | exact H_pC1.out.of_eq (B.block _ H_pC1.out.lt)
  have r10 := by first | exact H_r10.out.below B | exact H_r10.out.of_eq (B.block _ H_r10.out.lt)
  have nA2 := by first | exact H_nA2.out.below B | exact H_nA2.out.of_eq (B.block _ H_nA2.out.lt)
  have nC2 := by first | exact H_nC2.out.below B | exact H_nC2.out.of_eq (B.block _ H_nC2.out.lt)
  have r12 := by first | exact H_r12.out.below B | exact H_r12.out.of_eq (B.block _ H_r12.out.lt)
  have r13 := by first | exact H_r13.out.below B | exact H_r13.out.of_eq (B.block _ H_r13.out.lt)
  have pA2 := by first | exact H_pA2.out.below B | exact H_pA2.out.of_eq (B.block _ H_pA2.out.lt)
  have pC2 := by first | exact H_pC2.out.below B | exact H_pC2.out.of_eq (B.block _ H_pC2.out.lt)
  clear H_rs; clear H_r6; clear H_nA1; clear H_nC1; clear H_r7; clear H_r8; clear H_pA1; clear H_pC1; clear H_r10; clear H_nA2; clear H_nC2; clear H_r12; clear H_r13; clear H_pA2; clear H_pC2; have B0 := BG.trans (B.mono hwsK); clear B BG hwsK; have B := B0; clear B0; go_upto_region 10 with fail
  refine wp_region_lit ?_; try simp only [zN]
  refine jG 14 ?_
  repeat (first | go_big_quiet_skip | (go_big_quiet_want; first | ((first | refine zo (t := 30) rfl _ _ _ rfl (fun w hw => Yb (zD r10 w hw)) (by rfl) ?_ | refine zo (t := 30) rfl _ _ _ rfl (fun w hw => Yc (zD r10 w hw)) (by rfl) ?_ | refine zo (t := 53) rfl _ _ _ rfl (fun w hw => zfK (zD r10 w hw)) (by rfl) ?_ | refine zo (t := 30) rfl _ _ _ rfl (fun w hw => Yb (zD r15 w hw)) (by rfl) ?_ | refine zo (t := 30) rfl _ _ _ rfl (fun w hw => Yc (zD r15 w hw)) (by rfl) ?_ | refine zo (t := 53) rfl _ _ _ rfl (fun w hw => zfK (zD r15 w hw)) (by rfl) ?_ | refine qB ?_ | refine qC ?_); simp only [zn]; go_big_quiet_on) | (go_big_quiet_op; go_big_quiet_on)))
  refine wpQuiet_nil ?_; refine qE (enters_of Tryz.func28 (by kernel_rfl) rfl) (c := vF _ _ A1 A1 true _ nA1 pA1 LA1.out LA1.out (decide_eq_true (EqS.eq.2 rfl))) (h := ?_); rintro e wn ⟨rfl, za⟩; have zf := B.size; have zg := za.size; replace B := B.trans (za.mono B.size)
  (try replace rs := rs.below za)
  (try replace r6 := r6.below za)
  (try replace nA1 := nA1.below za)
  (try replace nC1 := nC1.below za)
  (try replace r7 := r7.below za)
  (try replace r8 := r8.below za)
  (try replace pA1 := pA1.below za)
  (try replace pC1 := pC1.below za)
  (try replace r10 := r10.below za)
  (try replace nA2 := nA2.below za)
  (try replace nC2 := nC2.below za)
  (try replace r12 := r12.below za)
  (try replace r13 := r13.below za)
  (try replace pA2 := pA2.below za)
  (try replace pC2 := pC2.below za)
  (try replace r15 := r15.below za)
  refine ⟨_, rfl, ?_⟩; simp only [zn]; refine jG 6 ?_
  repeat (first | go_big_quiet_skip | (go_big_quiet_want; first | ((first | refine zo (t := 30) rfl _ _ _ rfl (fun w hw => Yb (zD r10 w hw)) (by rfl) ?_ | refine zo (t := 30) rfl _ _ _ rfl (fun w hw => Yc (zD r10 w hw)) (by rfl) ?_ | refine zo (t := 30) rfl _ _ _ rfl (fun w hw => Yb (zD r15 w hw)) (by rfl) ?_ | refine zo (t := 30) rfl _ _ _ rfl (fun w hw => Yc (zD r15 w hw)) (by rfl) ?_ | refine qB ?_ | refine qC ?_); simp only [zn]; go_big_quiet_on) | (go_big_quiet_op; go_big_quiet_on)))
  refine wpQuiet_nil ?_; refine qE (enters_of Tryz.func28 (by kernel_rfl) rfl) (c := vF _ _ C1 C1 true _ nC1 pC1 LC1.out LC1.out (decide_eq_true (EqS.eq.2 rfl))) (h := ?_); rintro e wn ⟨rfl, za⟩; have zf := B.size; have zg := za.size; replace B := B.trans (za.mono B.size)
  (try replace rs := rs.below za)
  (try replace r6 := r6.below za)
  (try replace nA1 := nA1.below za)
  (try replace nC1 := nC1.below za)
  (try replace r7 := r7.below za)
  (try replace r8 := r8.below za)
  (try replace pA1 := pA1.below za)
  (try replace pC1 := pC1.below za)
  (try replace r10 := r10.below za)
  (try replace nA2 := nA2.below za)
  (try replace nC2 := nC2.below za)
  (try replace r12 := r12.below za)
  (try replace r13 := r13.below za)
  (try replace pA2 := pA2.below za)
  (try replace pC2 := pC2.below za)
  (try replace r15 := r15.below za)
  refine ⟨_, rfl, ?_⟩; simp only [zn]; refine jG 6 ?_
  repeat (first | go_big_quiet_skip | (go_big_quiet_want; first | ((first | refine zo (t := 30) rfl _ _ _ rfl (fun w hw => Yb (zD r10 w hw)) (by rfl) ?_ | refine zo (t := 30) rfl _ _ _ rfl (fun w hw => Yc (zD r10 w hw)) (by rfl) ?_ | refine zo (t := 30) rfl _ _ _ rfl (fun w hw => Yb (zD r15 w hw)) (by rfl) ?_ | refine zo (t := 30) rfl _ _ _ rfl (fun w hw => Yc (zD r15 w hw)) (by rfl) ?_ | refine qB ?_ | refine qC ?_); simp only [zn]; go_big_quiet_on) | (go_big_quiet_op; go_big_quiet_on)))
  refine wpQuiet_nil ?_; refine qE (enters_of Tryz.func28 (by kernel_rfl) rfl) (c := vF _ _ A2 A2 true _ nA2 pA2 LA2.out LA2.out (decide_eq_true (EqS.eq.2 rfl))) (h := ?_); rintro e wn ⟨rfl, za⟩; have zf := B.size; have zg := za.size; replace B := B.trans (za.mono B.size)
  (try replace rs := rs.below za)
  (try replace r6 := r6.below za)
  (try replace nA1 := nA1.below za)
  (try replace nC1 := nC1.below za)
  (try replace r7 := r7.below za)
  (try replace r8 := r8.below za)
  (try replace pA1 := pA1.below za)
  (try replace pC1 := pC1.below za)
  (try replace r10 := r10.below za)
  (try replace nA2 := nA2.below za)
  (try replace nC2 := nC2.below za)
  (try replace r12 := r12.below za)
  (try replace r13 := r13.below za)
  (try replace pA2 := pA2.below za)
  (try replace pC2 := pC2.below za)
  (try replace r15 := r15.below za)
  refine ⟨_, rfl, ?_⟩; simp only [zn]; refine jG 6 ?_
  repeat (first | go_big_quiet_skip | (go_big_quiet_want; first | ((first | refine zo (t := 30) rfl _ _ _ rfl (fun w hw => Yb (zD r10 w hw)) (by rfl) ?_ | refine zo (t := 30) rfl _ _ _ rfl (fun w hw => Yc (zD r10 w hw)) (by rfl) ?_ | refine zo (t := 30) rfl _ _ _ rfl (fun w hw => Yb (zD r15 w hw)) (by rfl) ?_ | refine zo (t := 30) rfl _ _ _ rfl (fun w hw => Yc (zD r15 w hw)) (by rfl) ?_ | refine qB ?_ | refine qC ?_); simp only [zn]; go_big_quiet_on) | (go_big_quiet_op; go_big_quiet_on)))
  refine wpQuiet_nil ?_; refine qE (enters_of Tryz.func28 (by kernel_rfl) rfl) (c := vF _ _ C2 C2 true _ nC2 pC2 LC2.out LC2.out (decide_eq_true (EqS.eq.2 rfl))) (h := ?_); rintro e wn ⟨rfl, za⟩; have zf := B.size; have zg := za.size; replace B := B.trans (za.mono B.size)
  (try replace rs := rs.below za)
  (try replace r6 := r6.below za)
  (try replace nA1 := nA1.below za)
  (try replace nC1 := nC1.below za)
  (try replace r7 := r7.below za)
  (try replace r8 := r8.below za)
  (try replace pA1 := pA1.below za)
  (try replace pC1 := pC1.below za)
  (try replace r10 := r10.below za)
  (try replace nA2 := nA2.below za)
  (try replace nC2 := nC2.below za)
  (try replace r12 := r12.below za)
  (try replace r13 := r13.below za)
  (try replace pA2 := pA2.below za)
  (try replace pC2 := pC2.below za)
  (try replace r15 := r15.below za)
  refine ⟨_, rfl, ?_⟩; simp only [zn]; refine zx 2 ?_; refine wpList_nil ?_; clear nA1 nC1 pA1 pC1 r7 r8 r10 pA2 pC2 r15 q1 q2; obtain ⟨D1, hD1⟩ : ∃ D, yd A2 = D := ⟨_, rfl⟩; obtain ⟨D2, hD2⟩ : ∃ D, yd C2 = D := ⟨_, rfl⟩; have HD1 := Lib.hid hD1; have HD2 := Lib.hid hD2; have dl1 : D1.length ≤ 1024 := by rw [← hD1]; exact uX A2
  have dl2 : D2.length ≤ 1024 := by rw [← hD2]; exact uX C2
  rw [hD1, hD2] at HOK; obtain ⟨D12, hD12⟩ : ∃ D, D1 ++ D2 = D := ⟨_, rfl⟩; rw [hD12] at HOK; have HD12 := Lib.hid hD12; have dl12 : D12.length ≤ 2048 := by rw [← hD12, List.length_append]; omega
  clear hD1 hD2 hD12; go_upto_region 12 with fail
  obtain ⟨wK, hK⟩ : ∃ z, z = wn := ⟨_, rfl⟩; subst hK; have BG := B; have hwsK := BG.size; have B := Below.refl wK.heap.size wK; have H_rs := Lib.hid rs; have H_r6 := Lib.hid r6; have H_nA2 := Lib.hid nA2; have H_nC2 := Lib.hid nC2; have H_r12 := Lib.hid r12; have H_r13 := Lib.hid r13; try simp only [zN]
  try have lx_rs := rs.lt
  try have lx_r6 := r6.lt
  try have lx_nA2 := nA2.lt
  try have lx_nC2 := nC2.lt
  try have lx_r12 := r12.lt
  try have lx_r13 := r13.lt
  refine zL 6 [(0, zdU wK.heap.size), (2, zcZ D1), (3, zfm wK.heap.size D1), (5, zcZ D2)] (by kernel_rfl) (by kernel_rfl) (by kernel_rfl) ?_
  rotate_left 0
  simp only [jU, Nat.reduceAdd]; refine zz (by rfl) (by first | rfl | simp [Region.wanted, yielded]) ?_ ?_
  ·intro wn za hE Kx hKx
   have zf := B.size; have zg := za.size; replace B := B.trans (za.mono B.size)
   (try replace rs := rs.below za)
   (try replace r6 := r6.below za)
   (try replace nA2 := nA2.below za)
   (try replace nC2 := nC2.below za)
   (try replace r12 := r12.below za)
   (try replace r13 := r13.below za)
   refine zbL rfl ?_; intro b wm h1 odx zl; exact hKx b wm (odx.mono (Nat.le_trans za.size h1)) zl
  rintro b_88
  dsimp only [zP, zdU]
  simp only [zn]; refine vC 1 ?_
  refine zz (by rfl) (by first | rfl | simp [Region.wanted, yielded]) ?_ ?_
  ·intro wn za hE Kx hKx
   have zf := B.size; have zg := za.size; replace B := B.trans (za.mono B.size)
   (try replace rs := rs.below za)
   (try replace r6 := r6.below za)
   (try replace nA2 := nA2.below za)
   (try replace nC2 := nC2.below za)
   (try replace r12 := r12.below za)
   (try replace r13 := r13.below za)
   refine zS rfl (enters_of Tryz.func19 (by kernel_rfl) rfl) (by simp only [Act.eval, qI]; rfl) ?_
   refine (kn _ A2 D1 wn nA2 MA2.out HD1.out).mono ?_; rintro e wm ⟨a', c', rfl, odx, zl⟩; exact ⟨_, rfl, hKx (a', c') wm odx.rs zl⟩
  rintro ⟨a90, c90⟩
  dsimp only [zP, zcZ]
  simp only [zn]; refine zz (by rfl) (by first | rfl | simp [Region.wanted, yielded]) ?_ ?_
  ·intro wn za hE Kx hKx
   have zf := B.size; have zg := za.size; replace B := B.trans (za.mono B.size)
   (try replace rs := rs.below za)
   (try replace r6 := r6.below za)
   (try replace nA2 := nA2.below za)
   (try replace nC2 := nC2.below za)
   (try replace r12 := r12.below za)
   (try replace r13 := r13.below za)
   have n88 := hE 0 (by kernel_rfl); change zW _ _ _ _ _ at n88
   have n90 := hE 2 (by kernel_rfl); change jF _ _ _ _ at n90
   refine X5 (E := kx) _ _ rfl _ _ rfl rfl n88 n90 (by omega) (by omega) ?_; intro ad c wm odx zl; exact hKx (ad, c) wm odx zl
  rintro ⟨a91, c91⟩
  dsimp only [zP, zfm]
  simp only [zn]; refine vC 1 ?_
  refine zz (by rfl) (by first | rfl | simp [Region.wanted, yielded]) ?_ ?_
  ·intro wn za hE Kx hKx
   have zf := B.size; have zg := za.size; replace B := B.trans (za.mono B.size)
   (try replace rs := rs.below za)
   (try replace r6 := r6.below za)
   (try replace nA2 := nA2.below za)
   (try replace nC2 := nC2.below za)
   (try replace r12 := r12.below za)
   (try replace r13 := r13.below za)
   refine zS rfl (enters_of Tryz.func19 (by kernel_rfl) rfl) (by simp only [Act.eval, qI]; rfl) ?_
   refine (kn _ C2 D2 wn nC2 MC2.out HD2.out).mono ?_; rintro e wm ⟨a', c', rfl, odx, zl⟩; exact ⟨_, rfl, hKx (a', c') wm odx.rs zl⟩
  rintro ⟨a93, c93⟩
  dsimp only [zP, zcZ]
  simp only [zn]; refine qz ?_; intro wn za hE; have zf := B.size; have zg := za.size; replace B := B.trans (za.mono B.size)
  (try replace rs := rs.below za)
  (try replace r6 := r6.below za)
  (try replace nA2 := nA2.below za)
  (try replace nC2 := nC2.below za)
  (try replace r12 := r12.below za)
  (try replace r13 := r13.below za)
  have n88 := hE 0; change zW _ _ _ _ _ at n88
  have n90 := hE 2; change jF _ _ _ _ at n90
  have n91 := hE 3; change zW _ _ _ _ _ at n91
  have n93 := hE 5; change jF _ _ _ _ at n93
  clear hE; try simp only [List.drop_succ_cons, List.drop_zero]
  clear n88 n90; refine y5 rfl _ _ rfl _ _ rfl rfl n91 n93 (by omega) (by omega) ?_; intro v_od wn od hg; rw [HD12.out] at od; have zf := B.size; replace B := yP B B.size hg (fun r e => (World.ownsRow.lt n91 r e).1); clear n91 n93 hg; obtain ⟨a16, c16, hv, hco⟩ := od.len; subst hv; simp only [zn]; refine zx 1 ?_; refine wpList_nil ?_; refine zQ.normal ?_; have rd := od.rs; clear od rs r6 nA2 nC2 r12 r13; have rs := by first | exact H_rs.out.below B | exact H_rs.out.of_eq (B.block _ H_rs.out.lt)
  clear H_rs; have r6 := by first | exact H_r6.out.below B | exact H_r6.out.of_eq (B.block _ H_r6.out.lt)
  clear H_r6; have nA2 := by first | exact H_nA2.out.below B | exact H_nA2.out.of_eq (B.block _ H_nA2.out.lt)
  clear H_nA2; have nC2 := by first | exact H_nC2.out.below B | exact H_nC2.out.of_eq (B.block _ H_nC2.out.lt)
  clear H_nC2; have r12 := by first | exact H_r12.out.below B | exact H_r12.out.of_eq (B.block _ H_r12.out.lt)
  clear H_r12; have r13 := by first | exact H_r13.out.below B | exact H_r13.out.of_eq (B.block _ H_r13.out.lt)
  clear H_r13; have B0 := BG.trans (B.mono hwsK); clear B BG hwsK; have B := B0; clear B0; go_upto_region 13 with fail
  rcases HE2.out with hE | hE
  ·obtain ⟨va, vc, hdd⟩ := HOK.out hE
   have HVA := Lib.hid va; have HVC := Lib.hid vc; have HDD := Lib.hid hdd.symm; have DL := Lib.hid (show D12.length ≤ 1000000 by omega); clear va vc hdd HE2; subst hE; refine wp_region_lit ?_; try simp only [zN]
   refine zx 7 ?_
   refine qE (enters_of Tryz.func19 (by kernel_rfl) rfl) (c := kn _ S D12 _ rs SN.out HDD.out) (h := ?_); rintro e wn ⟨a102, c102, rfl, od2, za⟩; have zf := B.size; have zg := za.size; replace B := B.trans (za.mono B.size)
   (try replace rs := rs.below za)
   (try replace r6 := r6.below za)
   (try replace nA2 := nA2.below za)
   (try replace nC2 := nC2.below za)
   (try replace r12 := r12.below za)
   (try replace r13 := r13.below za)
   (try replace rd := rd.below za)
   have rd2 := od2.rs; clear od2; refine ⟨_, rfl, ?_⟩; simp only [zn]; refine qE (enters_of Tryz.func18 (by kernel_rfl) rfl) (c := ZV _ _ D12 D12 true _ rd rd2 DL.out DL.out (decide_eq_true rfl)) (h := ?_); rintro e wn ⟨rfl, za⟩; have zf := B.size; have zg := za.size; replace B := B.trans (za.mono B.size)
   (try replace r6 := r6.below za)
   (try replace nA2 := nA2.below za)
   (try replace nC2 := nC2.below za)
   (try replace r12 := r12.below za)
   (try replace r13 := r13.below za)
   refine ⟨_, rfl, ?_⟩; simp only [zn]; refine zx 2 ?_
   refine qE (enters_of Tryz.func16 (by kernel_rfl) rfl) (c := jh _ A2 true _ nA2 MA2.out HVA.out) (h := ?_); rintro e wn ⟨rfl, za⟩; have zf := B.size; have zg := za.size; replace B := B.trans (za.mono B.size)
   (try replace r6 := r6.below za)
   (try replace nC2 := nC2.below za)
   (try replace r12 := r12.below za)
   (try replace r13 := r13.below za)
   refine ⟨_, rfl, ?_⟩; simp only [zn]; refine zx 3 ?_
   refine qE (enters_of Tryz.func16 (by kernel_rfl) rfl) (c := jh _ C2 true _ nC2 MC2.out HVC.out) (h := ?_); rintro e wn ⟨rfl, za⟩; have zf := B.size; have zg := za.size; replace B := B.trans (za.mono B.size); refine ⟨_, rfl, ?_⟩; simp only [zn]; refine zx 4 ?_; refine wpList_nil ?_; go_wp2; go_ret; exact ⟨rfl, B⟩
  ·clear HE2
   subst hE; refine wp_region_lit ?_; try simp only [zN]
   refine @x4 _ _ _ _ 5 _ _ (by kernel_rfl) ?_; simp only [jU, Nat.reduceAdd]; repeat (first | go_big_quiet_skip | (go_big_quiet_want; go_big_quiet_op; go_big_quiet_on))
   refine @wpQuiet_nil _ _ _ _ _ ?_; refine @zH _ _ _ _ _ _ _ ?hs18_5 ?_
   case hs18_5 => kernel_rfl
   simp only [zn]; refine @zH _ _ _ _ _ _ _ ?hs18_6 ?_
   case hs18_6 => kernel_rfl
   simp only [zn]; refine @zH _ _ _ _ _ _ _ ?hs18_7 ?_
   case hs18_7 => kernel_rfl
   simp only [zn]; refine @zH _ _ _ _ _ _ _ ?hs18_8 ?_
   case hs18_8 => kernel_rfl
   simp only [zn]; refine @zH _ _ _ _ _ _ _ ?hs18_9 ?_
   case hs18_9 => kernel_rfl
   simp only [zn]; refine @zH _ _ _ _ _ _ _ ?hs18_10 ?_
   case hs18_10 => kernel_rfl
   simp only [zn]; refine @zH _ _ _ _ _ _ _ ?hs18_11 ?_
   case hs18_11 => kernel_rfl
   simp only [zn]; refine @zH _ _ _ _ _ _ _ ?hs18_12 ?_
   case hs18_12 => kernel_rfl
   simp only [zn]; refine @zH _ _ _ _ _ _ _ ?hs18_13 ?_
   case hs18_13 => kernel_rfl
   simp only [zn]; refine @zH _ _ _ _ _ _ _ ?hs18_14 ?_
   case hs18_14 => kernel_rfl
   simp only [zn]; refine @zH _ _ _ _ _ _ _ ?hs18_15 ?_
   case hs18_15 => kernel_rfl
   simp only [zn]; refine @zH _ _ _ _ _ _ _ ?hs18_16 ?_
   case hs18_16 => kernel_rfl
   simp only [zn]; refine @x4 _ _ _ _ 3 _ _ (by kernel_rfl) ?_; simp only [jU, Nat.reduceAdd]; repeat (first | go_big_quiet_skip | (go_big_quiet_want; go_big_quiet_op; go_big_quiet_on))
   refine @wpQuiet_nil _ _ _ _ _ ?_; refine wpList_nil ?_; go_wp2; go_ret; exact ⟨rfl, B⟩
namespace strokeSplit
open Go.ChangeShapes Go.WideShapes Go.ChangeAt Go.RowKit
open Go.ChangeMaps (open_string shut_string)
set_option maxRecDepth 100000 in
theorem lifted (os : Os) (started : os.Started) (H : Type) (enc : TypeId × Value → H) :
  ReturnsInHanded {} Tryz.checked os 6 .any (fun w args => (Rows.strokeSplitSpec.pre enc Tryz.prog Tryz.f6 [] false w args ∧ laidMetH Tryz.prog XU w) ∧ sizedMet enc Tryz.prog Tryz.f6 (OpenSpec.ofChange Rows.strokeSplitSpec) false w args) (Rows.strokeSplitSpec.post enc Tryz.prog Tryz.f6 false true false false) := by
 refine returnsInHanded_of_change_and (C := Tryz.checked) (X := fun w _ => laidMetH Tryz.prog XU w) (fun _ _ _ hh h => h.of_heap hh) own started (by kernel_rfl) Tryz.func6
  (ChangeSpec.witness_shaped (enc := enc) (C := Tryz.checked) (os := os) (X := fun w _ => laidMetH Tryz.prog XU w) false (World.doorLaid Tryz.prog 400 os) #[.agg #[.slice none 0 0, .int .i64 0, .int .i64 0], .int .i64 0] 8 rfl (World.shaped_of_RefB (by kernel_rfl) (by kernel_rfl)) (by kernel_rfl) (by kernel_rfl) (by kernel_rfl) (za8 os _)) ?_
 intro W base args ds gs before hval0 hW _ hsz0 hL _
 have hlm := XW hL
 have hval : ∀ (j : Nat) t v, Tryz.f6.params[j]? = some t → args[j]? = some v → Value.okWide Tryz.prog W .any base t v := hval0
 have hW' := hW
 obtain ⟨p, q, hA0, hV, rfl, hfz, hnd⟩ := hW
 have hA : DataW.TrodAll enc Tryz.prog W 0 (fun _ => true) true Tryz.f6.params.toList args.toList ds p := hA0
 rw [Tryz.params6] at hA hval hsz0
 obtain ⟨v0, vs0, d0, ds0, p0, q0, hargs, rfl, rfl, h0, r0⟩ := trodAll_cons hA
 obtain ⟨v1, vs1, d1, ds1, p1, q1, rfl, rfl, rfl, h1, r1⟩ := trodAll_cons r0
 obtain ⟨rfl, rfl, rfl⟩ := trodAll_nil r1
 obtain rfl : args = #[v0, v1] := by cases args; simp_all
 obtain ⟨rfl, rfl⟩ := trodVars_none hV
 have hwt0 : ∀ n ∈ DataW.weights Tryz.prog 24 d0, n ≤ reachBytes := fun n hn => by simpa using List.all_eq_true.1 hsz0 n (DataW.weights_mem_each (j := 0) rfl rfl n hn)
 have k0 := h0
 have lt0 : ∀ x ∈ p0, x.block < W.heap.size := by obtain ⟨m, hm⟩ := k0; exact DataW.trod_lt m _ _ _ hm
 have k1 := h1
 have lt1 : ∀ x ∈ p1, x.block < W.heap.size := by obtain ⟨m, hm⟩ := k1; exact DataW.trod_lt m _ _ _ hm
 obtain ⟨vL0, L0, how0, val0, rfl, hL0, hLn0, hhw0, hvl0⟩ := Ko (hval 0 24 v0 rfl rfl) h0 hwt0
 obtain ⟨a1, rfl, rfl, rfl, w1⟩ := open_int Tryz.underlying3 (hval 1 3 v1 rfl rfl) h1
 clear hA0 hval0
 refine (Zb vL0 L0 how0 val0 a1  W hlm hL0 hLn0).mono fun e W' ⟨he, bel⟩ => ?_
 subst he
 exact ⟨_, rfl, _, _, _, [], _, [], hW', trodAll_mk1 (shut_bool Tryz.underlying4 _), (trodAll_cons_mk (Below.trod Vu (by kernel_rfl) (of_decide_eq_true (by kernel_rfl)) k0 bel lt0) (trodAll_cons_mk (Below.trod Vu (by kernel_rfl) (of_decide_eq_true (by kernel_rfl)) k1 bel lt1) trodAll_mk0)), rfl, bel.frame _, fun h => by cases h⟩
theorem over : Rows.strokeSplitRow.holds Tryz.pinned (OpenSpec.ofChange Rows.strokeSplitSpec) :=
 OpenClaim.holds_of_wide 6 Tryz.f6 rfl rfl rfl rfl rfl rfl rfl ⟨rfl, rfl, rfl, rfl, rfl⟩ rfl rfl rfl rfl rfl (by kernel_rfl) Tryz.func6 (by kernel_rfl)
  (of_decide_eq_true (by kernel_rfl)) (by unfold Func.isWrapper; first | (rw [if_pos (by decide +kernel)]; kernel_rfl) | (rw [if_neg (by decide +kernel)]; exact ⟨rfl, rfl⟩))
  (fun os started H enc _ => lifted os started H enc)
/-- THE STATEMENT: StrokeSplit returns true for every input, and its arguments read as they did; what the listed variable holds is tied to the program's text. -/
theorem proved : Rows.StrokeSplitCardSaid := by
 unfold Rows.StrokeSplitCardSaid Rows.strokeSplitCard
 exact Claim7.holds_tied_plain_at .later [] [.data] true _ false over (fun _ h => by cases h) (by kernel_rfl) (fun _ h => by cases h) strokeSplit_row_tie rfl ⟨rfl, rfl⟩ (by kernel_rfl) rfl
  (fun f fn hf hfn => by
   obtain rfl : f = 6 := Option.some.inj ((show Tryz.prog.funcNamed "gouache/gouachelaw14.StrokeSplit" = some 6 by kernel_rfl).symm.trans hf) |>.symm
   obtain rfl : fn = Tryz.f6 := (Option.some.inj (Tryz.func6.symm.trans hfn)).symm; exact ⟨by kernel_rfl, fun j t ht => by
    rw [Tryz.params6] at ht; have hm : t ∈ [24, 3] := by simpa using Array.mem_of_getElem? ht
    have hall : ([24, 3].all fun u => !Tryz.prog.wantsStandIn u) = true := by kernel_rfl
    exact (show Tryz.prog.wantsStandIn t = false by simpa using List.all_eq_true.1 hall t hm)⟩)
  (by kernel_rfl)
end strokeSplit
end Go.Proofs.YtepelndbbhdofaaGreatDoor
