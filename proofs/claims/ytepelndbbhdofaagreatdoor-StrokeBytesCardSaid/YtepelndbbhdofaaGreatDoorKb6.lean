/- StrokeBytes: for every generated stroke, every text cut to 100 bytes and every byte changed, Bytes and Read agree with the reference and turn each other back: the law returns true for every input, and its arguments read as they did; what the listed variable holds is tied to the program's text. No other condition. -/
import Derived.Test.YtepelndbbhdofaaGreatDoorKb5
import Derived.Lib.AppendZeros

/- of: a made stroke with one field changed. -/
namespace Go.Proofs.YtepelndbbhdofaaGreatDoor
open Go.RowKit Go.Shelf Pl
set_option linter.unusedVariables false
set_option linter.unusedSimpArgs false
set_option maxRecDepth 20000
theorem qE.neT {α : Type} {k : Nat} {T ST : TypeId} {E : Q3 α k T ST} {B b : Nat} {v : Value} {ls : List α} {t : TypeId} {cs : Array Value} {w : World} (h : qE E B v ls w) (ha : zJ t w b cs) (ht : t ≠ T) : ∀ g, v.ownBlock = some g → g ≠ b := fun g hg e => by
 obtain ⟨cur, hc⟩ := h.block hg
 subst e
 have := (show w.heap[g]? = _ from hc).symm.trans ha
 injection this with this
 injection this with _ this
 exact ht this.symm
def oIx (L : List Int) (val : Int) : Nat := (val % 65536 % (madeN L : Int)).toNat
def Xj (n k : Nat) : List Sp := (List.range k).map fun j => ⟨((n + j : Nat) : Int), 0, 9⟩
def ofN (val : Int) : Nat := (64 + val % 2).toNat
def vZ (l : List Sp) (k : Nat) : List Sp := l ++ Xj l.length k
theorem Jk (l : List Sp) (k : Nat) : (vZ l k).length = l.length + k := by unfold vZ Xj; rw [List.length_append, List.length_map, List.length_range]
theorem KH (l : List Sp) (k : Nat) : vZ l (k + 1) = vZ l k ++ [⟨((l.length + k : Nat) : Int), 0, 9⟩] := by
 unfold vZ Xj
 rw [List.range_succ, List.map_append, List.append_assoc]
 rfl
/-- The stroke that 'of' returns. -/
def KA (s : qS) (c : Int) (i : Nat) (val : Int) : qS :=
 if c = 1 then { s with pts := s.pts.set i ⟨val, (jg s.pts i).y, (jg s.pts i).p⟩ }
 else if c = 2 then { s with pts := s.pts.set i ⟨(jg s.pts i).x, val, (jg s.pts i).p⟩ }
 else if c = 3 then { s with pts := s.pts.set i ⟨(jg s.pts i).x, (jg s.pts i).y, val⟩ }
 else if c = 4 then { s with rad := val }
 else if c = 5 then { s with spa := val }
 else if c = 6 then { s with pha := val }
 else if c = 7 then { s with pts := [] }
 else if c = 8 then { s with pts := vZ s.pts (ofN val - s.pts.length) }
 else s
def ofS (L : List Int) (how val : Int) : qS := KA (qI L) (how % 16) (oIx L val) val
theorem zdt (s : qS) (c : Int) (i : Nat) (val : Int) (h : s.pts.length ≤ 6) : (KA s c i val).pts.length ≤ 65 := by
 have hn : ofN val ≤ 65 := by unfold ofN; omega
 unfold KA
 repeat' split
 all_goals try simp only [List.length_set, List.length_nil, Jk]
 all_goals omega
theorem zd1 (L : List Int) (how val : Int) : (ofS L how val).pts.length ≤ 65 := zdt _ _ _ _ (by rw [yH]; exact (wd L).2)
theorem zds (s : qS) (c : Int) (i : Nat) (val : Int) : (KA s c i val).col = s.col := by
 unfold KA
 repeat' split
 all_goals rfl
theorem zd0 (L : List Int) (how val : Int) : (ofS L how val).col.ok := by unfold ofS; rw [zds]; exact Xg L
def zgT : Option Value → Nat
 | some (.slice _ n _) => n
 | _ => 0
set_option maxHeartbeats 8000000 in
theorem zeI (vL : Value) (L : List Int) (how val : Int) (S' : qS) (w : World) (ls : j9 inE vL L w) (hn : L.length ≤ 17592186044416) (e : ofS L how val = S') : Calls Tryz.prog 14 #[.agg #[vL, .int .i64 how, .int .i64 val]] w fun e w' => ∃ v', e = .returned (.agg (qR v' S')) ∧ j9 qQ v' S'.pts w' ∧ Below w.heap.size w w' := by
 have B := Below.refl w.heap.size w
 obtain ⟨aL, cL, rfl, hcL⟩ := ls.len
 have mb := wd L
 have HLL := Lib.hid (yH L)
 have mlen : (qI L).pts.length ≤ 6 := by rw [yH]; exact mb.2
 have mlen1 : 1 ≤ (qI L).pts.length := by rw [yH]; exact mb.1
 have hV : bits .and .i64 val 65535 = val % 65536 := y5 val 16 65535 rfl (by decide)
 have hV1 : bits .and .i64 val 1 = val % 2 := y5 val 1 1 rfl (by decide)
 have hC : bits .and .i64 how 15 = how % 16 := y5 how 4 15 rfl (by decide)
 have HI := Lib.hid (show oIx L val = (val % 65536 % ((qI L).pts.length : Int)).toNat from by unfold oIx; rw [yH])
 have HE := Lib.hid (show KA (qI L) (how % 16) (oIx L val) val = S' from e)
 obtain ⟨i, hi⟩ : ∃ i, oIx L val = i := ⟨_, rfl⟩
 rw [hi] at HI HE
 have HMA := Lib.hid (fun w' (h : Below w.heap.size w w') => Jc (.slice aL L.length cL) L w' (ls.below h) hn)
 clear hi ls e mb HLL
 obtain ⟨s, hs⟩ : ∃ s, qI L = s := ⟨_, rfl⟩
 rw [hs] at mlen mlen1 HI HE HMA
 clear hs
 obtain ⟨n, zk⟩ : ∃ n : Nat, s.pts.length = n := ⟨_, rfl⟩
 rw [zk] at mlen mlen1 HI HMA
 have HLN := Lib.hid zk
 clear zk
 have e0 : (n : Int) ≠ 0 := by omega
 have e00 : ((n : Int) == 0) = false := by simp; omega
 have t1 : Int.tmod (val % 65536) (n : Int) = (i : Int) := by
  rw [Int.tmod_eq_emod_of_nonneg (by omega), HI.out]; exact (Int.toNat_of_nonneg (Int.emod_nonneg _ e0)).symm
 have hin : i < n := by
  rw [HI.out]; have := Int.emod_lt_of_pos (val % 65536) (show (0 : Int) < n by omega); omega
 obtain ⟨C, hCC⟩ : ∃ C, how % 16 = C := ⟨_, rfl⟩
 rw [hCC] at hC HE
 have hC0 : 0 ≤ C ∧ C ≤ 15 := by omega
 clear hCC HI
 go_enter Tryz.func14, Tryz.ntmps14
 go_upto_region 0 with fail
 refine wp_region_lit ?_
 (refine zt (t := 24) rfl _ rfl _ rfl (z6 B ?_); clear B; intro b_r1 wn zb zd r1 za zf zk B; simp only [zn])
 (refine zu (t := 30) rfl _ (zW _ _ rfl) (z6 B ?_); clear B; intro b_r2 wn zb zd r2 za zf zk B; (try have zh := r1.lt); (try replace r1 := r1.below (za.mono zb)); simp only [zn])
 refine wpList_nil ?_
 have k1 : w.heap.size ≤ b_r1 := by omega
 have k2 : b_r1 < b_r2 := by have := r1.lt; omega
 have k3 := r2.lt
 go_upto_region 1 with fail
 obtain ⟨b0, hb0⟩ : ∃ n, n = wn.heap.size := ⟨_, rfl⟩
 have k4 : b_r2 < b0 := by omega
 have k5 : b_r1 < b0 := by omega
 have HB0 := Lib.hid hb0
 clear hb0
 refine wp_region_lit ?_
 refine zy 2 ?_
 refine qT (enters_of Tryz.func15 (by kernel_rfl) rfl) (c := HMA.out _ B) (h := ?_)
 rintro e wn ⟨a3, c3, rfl, od, za⟩
 have zf := B.size
 have zg := za.size
 replace B := B.trans (za.mono B.size)
 (try replace r1 := r1.below za)
 (try replace r2 := r2.below za)
 rw [← HB0.out] at od
 refine ⟨_, rfl, ?_⟩
 simp only [zn]
 (have _ := od; refine zu (t := 30) rfl _ (zW _ _ rfl) (z6 B ?_); clear B; intro b_r3 wn zb zd r3 za zf zk B; replace od := od.below (za.mono zb); (try have zh := r1.lt); (try replace r1 := r1.below (za.mono zb)); (try have zh := r2.lt); (try replace r2 := r2.below (za.mono zb)); (try have zh := r3.lt); (try replace r3 := r3.below (za.mono zb)); simp only [zn])
 (refine zq (t := 30) rfl _ _ rfl _ rfl _ rfl r3 (by kernel_rfl) rfl (by simp [qR, Value.oneCell']) (qG B (by omega) ?_); have hnB := od.neT r3 (by decide); clear r3 B; intro wn r3 ze zf zg B; replace od := od.chgB ze hnB; clear hnB; (try replace r1 := r1.of_eq (ze.block _ r1.lt (by omega))); (try replace r2 := r2.of_eq (ze.block _ r2.lt (by omega))); simp only [zn])
 refine wpList_nil ?_
 clear HMA HB0
 go_upto_region 2 with fail
 refine wp_region_lit ?_
 refine zy 5 ?_
 refine zw (by first | rfl | simp [Region.wanted, yielded]) rfl Tryz.underlying26 rfl ?_
 simp only [zn]
 refine zy 2 ?_
 refine wpList_nil ?_
 go_upto_region 3 with fail
 refine wp_region_lit ?_
 refine zy 3 ?_
 refine wpList_nil ?_
 have hPn : n = s.pts.length := HLN.out.symm
 have hiP : i < s.pts.length := by omega
 have HPX : Hid (jg s.pts i = ⟨(jg s.pts i).x, (jg s.pts i).y, (jg s.pts i).p⟩) := Lib.hid rfl
 have pcx := od.rs
 have oin : ∃ g, a3 = some ⟨g, 0, none⟩ := by
  obtain ⟨_, h2⟩ := od; rcases h2 with ⟨e, _⟩ | ⟨g', cap, cur, e, _⟩
  ·injection e with e1 e2 _
   omega
  ·injection e with e1 _ _
   exact ⟨g', e1⟩
 obtain ⟨g, rfl⟩ := oin
 have hgb : b0 ≤ g := (World.ownsRow.lt od g rfl).1
 have hg3 : g ≠ b_r3 := od.neT r3 (by decide) g rfl
 clear pcx
 have qs : C = 1 ∨ C = 2 ∨ C = 3 ∨ C = 4 ∨ C = 5 ∨ C = 6 ∨ C = 7 ∨ C = 8 ∨ (C ≠ 1 ∧ C ≠ 2 ∧ C ≠ 3 ∧ C ≠ 4 ∧ C ≠ 5 ∧ C ≠ 6 ∧ C ≠ 7 ∧ C ≠ 8) := by omega
 rcases qs with hx | hx | hx | hx | hx | hx | hx | hx | hx
 ·have HS := Lib.hid (show S' = ⟨s.pts.set i ⟨val, (jg s.pts i).y, (jg s.pts i).p⟩, s.rad, s.spa, s.col, s.era, s.pha⟩ from by rw [← HE.out]; rw [hx]; simp [KA, HLN.out])
  have q1 : (C == 1) = true := by rw [hx]; rfl
  have p1 : decide (C = 1) = true := by rw [hx]; rfl
  have q2 : (C == 2) = false := by rw [hx]; rfl
  have p2 : decide (C = 2) = false := by rw [hx]; rfl
  have q3 : (C == 3) = false := by rw [hx]; rfl
  have p3 : decide (C = 3) = false := by rw [hx]; rfl
  have q4 : (C == 4) = false := by rw [hx]; rfl
  have p4 : decide (C = 4) = false := by rw [hx]; rfl
  have q5 : (C == 5) = false := by rw [hx]; rfl
  have p5 : decide (C = 5) = false := by rw [hx]; rfl
  have q6 : (C == 6) = false := by rw [hx]; rfl
  have p6 : decide (C = 6) = false := by rw [hx]; rfl
  have q7 : (C == 7) = false := by rw [hx]; rfl
  have p7 : decide (C = 7) = false := by rw [hx]; rfl
  have q8 : (C == 8) = false := by rw [hx]; rfl
  have p8 : decide (C = 8) = false := by rw [hx]; rfl
  clear HE hx hC0; go_upto_region 4 with fail
  refine wp_region_lit ?_; refine zy 2 ?_; refine wpList_nil ?_; go_upto_region 5 with fail
  refine wp_region_lit ?_; refine zy 7 ?_
  (refine vz rfl _ _ rfl _ _ rfl _ rfl od hPn i 0 hiP (by omega) (by omega) ⟨val, (jg s.pts i).y, (jg s.pts i).p⟩ (by rw [HPX.out]; rfl) ?_; clear od; intro wn od ze zg; have zf := B.size; replace zg := Nat.le_of_eq zg.symm; replace B := qV.below B ze (by omega) B.size; (try replace r1 := r1.of_eq (ze.block _ r1.lt (by omega))); (try replace r2 := r2.of_eq (ze.block _ r2.lt (by omega))); (try replace r3 := r3.of_eq (ze.block _ r3.lt (by omega))); simp only [zn])
  refine wpList_nil ?_; go_upto_region 21 with fail
  refine wp_region_lit ?_; refine zy 1 ?_
  (refine zq (t := 30) rfl _ _ rfl _ rfl _ rfl r2 (by kernel_rfl) rfl (by simp [qR, Value.oneCell']) (qG B (by omega) ?_); clear r2 B; intro wn r2 ze zf zg B; replace od := od.chg ze (by omega); (try replace r1 := r1.of_eq (ze.block _ r1.lt (by omega))); (try replace r3 := r3.of_eq (ze.block _ r3.lt (by omega))); simp only [zn])
  refine wpList_nil ?_; first | (refine bodyPost_ret (zv (t := 30) rfl _ _ (b_r2) rfl r2 Tryz.isAgg30 (by kernel_rfl)) rfl ?_) | (go_step; refine bodyPost_ret (zv (t := 30) rfl _ _ (b_r2) rfl r2 Tryz.isAgg30 (by kernel_rfl)) rfl ?_) | (go_step; go_step; refine bodyPost_ret (zv (t := 30) rfl _ _ (b_r2) rfl r2 Tryz.isAgg30 (by kernel_rfl)) rfl ?_) | (go_step; go_step; go_step; refine bodyPost_ret (zv (t := 30) rfl _ _ (b_r2) rfl r2 Tryz.isAgg30 (by kernel_rfl)) rfl ?_) | (go_step; go_step; go_step; go_step; refine bodyPost_ret (zv (t := 30) rfl _ _ (b_r2) rfl r2 Tryz.isAgg30 (by kernel_rfl)) rfl ?_) | (go_step; go_step; go_step; go_step; go_step; refine bodyPost_ret (zv (t := 30) rfl _ _ (b_r2) rfl r2 Tryz.isAgg30 (by kernel_rfl)) rfl ?_)
  rw [HS.out]; exact ⟨_, rfl, od.rs, B⟩
 ·have HS := Lib.hid (show S' = ⟨s.pts.set i ⟨(jg s.pts i).x, val, (jg s.pts i).p⟩, s.rad, s.spa, s.col, s.era, s.pha⟩ from by rw [← HE.out]; rw [hx]; simp [KA, HLN.out])
  have q1 : (C == 1) = false := by rw [hx]; rfl
  have p1 : decide (C = 1) = false := by rw [hx]; rfl
  have q2 : (C == 2) = true := by rw [hx]; rfl
  have p2 : decide (C = 2) = true := by rw [hx]; rfl
  have q3 : (C == 3) = false := by rw [hx]; rfl
  have p3 : decide (C = 3) = false := by rw [hx]; rfl
  have q4 : (C == 4) = false := by rw [hx]; rfl
  have p4 : decide (C = 4) = false := by rw [hx]; rfl
  have q5 : (C == 5) = false := by rw [hx]; rfl
  have p5 : decide (C = 5) = false := by rw [hx]; rfl
  have q6 : (C == 6) = false := by rw [hx]; rfl
  have p6 : decide (C = 6) = false := by rw [hx]; rfl
  have q7 : (C == 7) = false := by rw [hx]; rfl
  have p7 : decide (C = 7) = false := by rw [hx]; rfl
  have q8 : (C == 8) = false := by rw [hx]; rfl
  have p8 : decide (C = 8) = false := by rw [hx]; rfl
  clear HE hx hC0; go_upto_region 4 with fail
  refine wp_region_lit ?_; refine zy 2 ?_; refine wpList_nil ?_; go_upto_region 6 with fail
  refine wp_region_lit ?_; refine zy 2 ?_; refine wpList_nil ?_; go_upto_region 7 with fail
  refine wp_region_lit ?_; refine zy 7 ?_
  (refine vz rfl _ _ rfl _ _ rfl _ rfl od hPn i 1 hiP (by omega) (by omega) ⟨(jg s.pts i).x, val, (jg s.pts i).p⟩ (by rw [HPX.out]; rfl) ?_; clear od; intro wn od ze zg; have zf := B.size; replace zg := Nat.le_of_eq zg.symm; replace B := qV.below B ze (by omega) B.size; (try replace r1 := r1.of_eq (ze.block _ r1.lt (by omega))); (try replace r2 := r2.of_eq (ze.block _ r2.lt (by omega))); (try replace r3 := r3.of_eq (ze.block _ r3.lt (by omega))); simp only [zn])
  refine wpList_nil ?_; go_upto_region 21 with fail
  refine wp_region_lit ?_; refine zy 1 ?_
  (refine zq (t := 30) rfl _ _ rfl _ rfl _ rfl r2 (by kernel_rfl) rfl (by simp [qR, Value.oneCell']) (qG B (by omega) ?_); clear r2 B; intro wn r2 ze zf zg B; replace od := od.chg ze (by omega); (try replace r1 := r1.of_eq (ze.block _ r1.lt (by omega))); (try replace r3 := r3.of_eq (ze.block _ r3.lt (by omega))); simp only [zn])
  refine wpList_nil ?_; first | (refine bodyPost_ret (zv (t := 30) rfl _ _ (b_r2) rfl r2 Tryz.isAgg30 (by kernel_rfl)) rfl ?_) | (go_step; refine bodyPost_ret (zv (t := 30) rfl _ _ (b_r2) rfl r2 Tryz.isAgg30 (by kernel_rfl)) rfl ?_) | (go_step; go_step; refine bodyPost_ret (zv (t := 30) rfl _ _ (b_r2) rfl r2 Tryz.isAgg30 (by kernel_rfl)) rfl ?_) | (go_step; go_step; go_step; refine bodyPost_ret (zv (t := 30) rfl _ _ (b_r2) rfl r2 Tryz.isAgg30 (by kernel_rfl)) rfl ?_) | (go_step; go_step; go_step; go_step; refine bodyPost_ret (zv (t := 30) rfl _ _ (b_r2) rfl r2 Tryz.isAgg30 (by kernel_rfl)) rfl ?_) | (go_step; go_step; go_step; go_step; go_step; refine bodyPost_ret (zv (t := 30) rfl _ _ (b_r2) rfl r2 Tryz.isAgg30 (by kernel_rfl)) rfl ?_)
  rw [HS.out]; exact ⟨_, rfl, od.rs, B⟩
 ·have HS := Lib.hid (show S' = ⟨s.pts.set i ⟨(jg s.pts i).x, (jg s.pts i).y, val⟩, s.rad, s.spa, s.col, s.era, s.pha⟩ from by rw [← HE.out]; rw [hx]; simp [KA, HLN.out])
  have q1 : (C == 1) = false := by rw [hx]; rfl
  have p1 : decide (C = 1) = false := by rw [hx]; rfl
  have q2 : (C == 2) = false := by rw [hx]; rfl
  have p2 : decide (C = 2) = false := by rw [hx]; rfl
  have q3 : (C == 3) = true := by rw [hx]; rfl
  have p3 : decide (C = 3) = true := by rw [hx]; rfl
  have q4 : (C == 4) = false := by rw [hx]; rfl
  have p4 : decide (C = 4) = false := by rw [hx]; rfl
  have q5 : (C == 5) = false := by rw [hx]; rfl
  have p5 : decide (C = 5) = false := by rw [hx]; rfl
  have q6 : (C == 6) = false := by rw [hx]; rfl
  have p6 : decide (C = 6) = false := by rw [hx]; rfl
  have q7 : (C == 7) = false := by rw [hx]; rfl
  have p7 : decide (C = 7) = false := by rw [hx]; rfl
  have q8 : (C == 8) = false := by rw [hx]; rfl
  have p8 : decide (C = 8) = false := by rw [hx]; rfl
  clear HE hx hC0; go_upto_region 4 with fail
  refine wp_region_lit ?_; refine zy 2 ?_; refine wpList_nil ?_; go_upto_region 6 with fail
  refine wp_region_lit ?_; refine zy 2 ?_; refine wpList_nil ?_; go_upto_region 8 with fail
  refine wp_region_lit ?_; refine zy 2 ?_; refine wpList_nil ?_; go_upto_region 9 with fail
  refine wp_region_lit ?_; refine zy 7 ?_
  (refine vz rfl _ _ rfl _ _ rfl _ rfl od hPn i 2 hiP (by omega) (by omega) ⟨(jg s.pts i).x, (jg s.pts i).y, val⟩ (by rw [HPX.out]; rfl) ?_; clear od; intro wn od ze zg; have zf := B.size; replace zg := Nat.le_of_eq zg.symm; replace B := qV.below B ze (by omega) B.size; (try replace r1 := r1.of_eq (ze.block _ r1.lt (by omega))); (try replace r2 := r2.of_eq (ze.block _ r2.lt (by omega))); (try replace r3 := r3.of_eq (ze.block _ r3.lt (by omega))); simp only [zn])
  refine wpList_nil ?_; go_upto_region 21 with fail
  refine wp_region_lit ?_; refine zy 1 ?_
  (refine zq (t := 30) rfl _ _ rfl _ rfl _ rfl r2 (by kernel_rfl) rfl (by simp [qR, Value.oneCell']) (qG B (by omega) ?_); clear r2 B; intro wn r2 ze zf zg B; replace od := od.chg ze (by omega); (try replace r1 := r1.of_eq (ze.block _ r1.lt (by omega))); (try replace r3 := r3.of_eq (ze.block _ r3.lt (by omega))); simp only [zn])
  refine wpList_nil ?_; first | (refine bodyPost_ret (zv (t := 30) rfl _ _ (b_r2) rfl r2 Tryz.isAgg30 (by kernel_rfl)) rfl ?_) | (go_step; refine bodyPost_ret (zv (t := 30) rfl _ _ (b_r2) rfl r2 Tryz.isAgg30 (by kernel_rfl)) rfl ?_) | (go_step; go_step; refine bodyPost_ret (zv (t := 30) rfl _ _ (b_r2) rfl r2 Tryz.isAgg30 (by kernel_rfl)) rfl ?_) | (go_step; go_step; go_step; refine bodyPost_ret (zv (t := 30) rfl _ _ (b_r2) rfl r2 Tryz.isAgg30 (by kernel_rfl)) rfl ?_) | (go_step; go_step; go_step; go_step; refine bodyPost_ret (zv (t := 30) rfl _ _ (b_r2) rfl r2 Tryz.isAgg30 (by kernel_rfl)) rfl ?_) | (go_step; go_step; go_step; go_step; go_step; refine bodyPost_ret (zv (t := 30) rfl _ _ (b_r2) rfl r2 Tryz.isAgg30 (by kernel_rfl)) rfl ?_)
  rw [HS.out]; exact ⟨_, rfl, od.rs, B⟩
 ·have HS := Lib.hid (show S' = ⟨s.pts, val, s.spa, s.col, s.era, s.pha⟩ from by rw [← HE.out]; rw [hx]; simp [KA, HLN.out])
  have q1 : (C == 1) = false := by rw [hx]; rfl
  have p1 : decide (C = 1) = false := by rw [hx]; rfl
  have q2 : (C == 2) = false := by rw [hx]; rfl
  have p2 : decide (C = 2) = false := by rw [hx]; rfl
  have q3 : (C == 3) = false := by rw [hx]; rfl
  have p3 : decide (C = 3) = false := by rw [hx]; rfl
  have q4 : (C == 4) = true := by rw [hx]; rfl
  have p4 : decide (C = 4) = true := by rw [hx]; rfl
  have q5 : (C == 5) = false := by rw [hx]; rfl
  have p5 : decide (C = 5) = false := by rw [hx]; rfl
  have q6 : (C == 6) = false := by rw [hx]; rfl
  have p6 : decide (C = 6) = false := by rw [hx]; rfl
  have q7 : (C == 7) = false := by rw [hx]; rfl
  have p7 : decide (C = 7) = false := by rw [hx]; rfl
  have q8 : (C == 8) = false := by rw [hx]; rfl
  have p8 : decide (C = 8) = false := by rw [hx]; rfl
  clear HE hx hC0; go_upto_region 4 with fail
  refine wp_region_lit ?_; refine zy 2 ?_; refine wpList_nil ?_; go_upto_region 6 with fail
  refine wp_region_lit ?_; refine zy 2 ?_; refine wpList_nil ?_; go_upto_region 8 with fail
  refine wp_region_lit ?_; refine zy 2 ?_; refine wpList_nil ?_; go_upto_region 10 with fail
  refine wp_region_lit ?_; refine zy 2 ?_; refine wpList_nil ?_; go_upto_region 11 with fail
  refine wp_region_lit ?_; refine zy 3 ?_
  (refine jn (t := 30) rfl _ _ rfl _ 1 rfl _ rfl r3 rfl (qG B (by omega) ?_); have hnB := od.neT r3 (by decide); clear r3 B; intro wn r3 ze zf zg B; replace od := od.chgB ze hnB; clear hnB; (try replace r1 := r1.of_eq (ze.block _ r1.lt (by omega))); (try replace r2 := r2.of_eq (ze.block _ r2.lt (by omega))); simp only [zn])
  refine wpList_nil ?_; replace r3 : zJ 30 _ b_r3 (qR (.slice (some ⟨g, 0, none⟩) n c3) ⟨s.pts, val, s.spa, s.col, s.era, s.pha⟩) := r3; go_upto_region 21 with fail
  refine wp_region_lit ?_; refine zy 1 ?_
  (refine zq (t := 30) rfl _ _ rfl _ rfl _ rfl r2 (by kernel_rfl) rfl (by simp [qR, Value.oneCell']) (qG B (by omega) ?_); clear r2 B; intro wn r2 ze zf zg B; replace od := od.chg ze (by omega); (try replace r1 := r1.of_eq (ze.block _ r1.lt (by omega))); (try replace r3 := r3.of_eq (ze.block _ r3.lt (by omega))); simp only [zn])
  refine wpList_nil ?_; first | (refine bodyPost_ret (zv (t := 30) rfl _ _ (b_r2) rfl r2 Tryz.isAgg30 (by kernel_rfl)) rfl ?_) | (go_step; refine bodyPost_ret (zv (t := 30) rfl _ _ (b_r2) rfl r2 Tryz.isAgg30 (by kernel_rfl)) rfl ?_) | (go_step; go_step; refine bodyPost_ret (zv (t := 30) rfl _ _ (b_r2) rfl r2 Tryz.isAgg30 (by kernel_rfl)) rfl ?_) | (go_step; go_step; go_step; refine bodyPost_ret (zv (t := 30) rfl _ _ (b_r2) rfl r2 Tryz.isAgg30 (by kernel_rfl)) rfl ?_) | (go_step; go_step; go_step; go_step; refine bodyPost_ret (zv (t := 30) rfl _ _ (b_r2) rfl r2 Tryz.isAgg30 (by kernel_rfl)) rfl ?_) | (go_step; go_step; go_step; go_step; go_step; refine bodyPost_ret (zv (t := 30) rfl _ _ (b_r2) rfl r2 Tryz.isAgg30 (by kernel_rfl)) rfl ?_)
  rw [HS.out]; exact ⟨_, rfl, od.rs, B⟩
 ·have HS := Lib.hid (show S' = ⟨s.pts, s.rad, val, s.col, s.era, s.pha⟩ from by rw [← HE.out]; rw [hx]; simp [KA, HLN.out])
  have q1 : (C == 1) = false := by rw [hx]; rfl
  have p1 : decide (C = 1) = false := by rw [hx]; rfl
  have q2 : (C == 2) = false := by rw [hx]; rfl
  have p2 : decide (C = 2) = false := by rw [hx]; rfl
  have q3 : (C == 3) = false := by rw [hx]; rfl
  have p3 : decide (C = 3) = false := by rw [hx]; rfl
  have q4 : (C == 4) = false := by rw [hx]; rfl
  have p4 : decide (C = 4) = false := by rw [hx]; rfl
  have q5 : (C == 5) = true := by rw [hx]; rfl
  have p5 : decide (C = 5) = true := by rw [hx]; rfl
  have q6 : (C == 6) = false := by rw [hx]; rfl
  have p6 : decide (C = 6) = false := by rw [hx]; rfl
  have q7 : (C == 7) = false := by rw [hx]; rfl
  have p7 : decide (C = 7) = false := by rw [hx]; rfl
  have q8 : (C == 8) = false := by rw [hx]; rfl
  have p8 : decide (C = 8) = false := by rw [hx]; rfl
  clear HE hx hC0; go_upto_region 4 with fail
  refine wp_region_lit ?_; refine zy 2 ?_; refine wpList_nil ?_; go_upto_region 6 with fail
  refine wp_region_lit ?_; refine zy 2 ?_; refine wpList_nil ?_; go_upto_region 8 with fail
  refine wp_region_lit ?_; refine zy 2 ?_; refine wpList_nil ?_; go_upto_region 10 with fail
  refine wp_region_lit ?_; refine zy 2 ?_; refine wpList_nil ?_; go_upto_region 12 with fail
  refine wp_region_lit ?_; refine zy 2 ?_; refine wpList_nil ?_; go_upto_region 13 with fail
  refine wp_region_lit ?_; refine zy 3 ?_
  (refine jn (t := 30) rfl _ _ rfl _ 2 rfl _ rfl r3 rfl (qG B (by omega) ?_); have hnB := od.neT r3 (by decide); clear r3 B; intro wn r3 ze zf zg B; replace od := od.chgB ze hnB; clear hnB; (try replace r1 := r1.of_eq (ze.block _ r1.lt (by omega))); (try replace r2 := r2.of_eq (ze.block _ r2.lt (by omega))); simp only [zn])
  refine wpList_nil ?_; replace r3 : zJ 30 _ b_r3 (qR (.slice (some ⟨g, 0, none⟩) n c3) ⟨s.pts, s.rad, val, s.col, s.era, s.pha⟩) := r3; go_upto_region 21 with fail
  refine wp_region_lit ?_; refine zy 1 ?_
  (refine zq (t := 30) rfl _ _ rfl _ rfl _ rfl r2 (by kernel_rfl) rfl (by simp [qR, Value.oneCell']) (qG B (by omega) ?_); clear r2 B; intro wn r2 ze zf zg B; replace od := od.chg ze (by omega); (try replace r1 := r1.of_eq (ze.block _ r1.lt (by omega))); (try replace r3 := r3.of_eq (ze.block _ r3.lt (by omega))); simp only [zn])
  refine wpList_nil ?_; first | (refine bodyPost_ret (zv (t := 30) rfl _ _ (b_r2) rfl r2 Tryz.isAgg30 (by kernel_rfl)) rfl ?_) | (go_step; refine bodyPost_ret (zv (t := 30) rfl _ _ (b_r2) rfl r2 Tryz.isAgg30 (by kernel_rfl)) rfl ?_) | (go_step; go_step; refine bodyPost_ret (zv (t := 30) rfl _ _ (b_r2) rfl r2 Tryz.isAgg30 (by kernel_rfl)) rfl ?_) | (go_step; go_step; go_step; refine bodyPost_ret (zv (t := 30) rfl _ _ (b_r2) rfl r2 Tryz.isAgg30 (by kernel_rfl)) rfl ?_) | (go_step; go_step; go_step; go_step; refine bodyPost_ret (zv (t := 30) rfl _ _ (b_r2) rfl r2 Tryz.isAgg30 (by kernel_rfl)) rfl ?_) | (go_step; go_step; go_step; go_step; go_step; refine bodyPost_ret (zv (t := 30) rfl _ _ (b_r2) rfl r2 Tryz.isAgg30 (by kernel_rfl)) rfl ?_)
  rw [HS.out]; exact ⟨_, rfl, od.rs, B⟩
 ·have HS := Lib.hid (show S' = ⟨s.pts, s.rad, s.spa, s.col, s.era, val⟩ from by rw [← HE.out]; rw [hx]; simp [KA, HLN.out])
  have q1 : (C == 1) = false := by rw [hx]; rfl
  have p1 : decide (C = 1) = false := by rw [hx]; rfl
  have q2 : (C == 2) = false := by rw [hx]; rfl
  have p2 : decide (C = 2) = false := by rw [hx]; rfl
  have q3 : (C == 3) = false := by rw [hx]; rfl
  have p3 : decide (C = 3) = false := by rw [hx]; rfl
  have q4 : (C == 4) = false := by rw [hx]; rfl
  have p4 : decide (C = 4) = false := by rw [hx]; rfl
  have q5 : (C == 5) = false := by rw [hx]; rfl
  have p5 : decide (C = 5) = false := by rw [hx]; rfl
  have q6 : (C == 6) = true := by rw [hx]; rfl
  have p6 : decide (C = 6) = true := by rw [hx]; rfl
  have q7 : (C == 7) = false := by rw [hx]; rfl
  have p7 : decide (C = 7) = false := by rw [hx]; rfl
  have q8 : (C == 8) = false := by rw [hx]; rfl
  have p8 : decide (C = 8) = false := by rw [hx]; rfl
  clear HE hx hC0; go_upto_region 4 with fail
  refine wp_region_lit ?_; refine zy 2 ?_; refine wpList_nil ?_; go_upto_region 6 with fail
  refine wp_region_lit ?_; refine zy 2 ?_; refine wpList_nil ?_; go_upto_region 8 with fail
  refine wp_region_lit ?_; refine zy 2 ?_; refine wpList_nil ?_; go_upto_region 10 with fail
  refine wp_region_lit ?_; refine zy 2 ?_; refine wpList_nil ?_; go_upto_region 12 with fail
  refine wp_region_lit ?_; refine zy 2 ?_; refine wpList_nil ?_; go_upto_region 14 with fail
  refine wp_region_lit ?_; refine zy 2 ?_; refine wpList_nil ?_; go_upto_region 15 with fail
  refine wp_region_lit ?_; refine zy 3 ?_
  (refine jn (t := 30) rfl _ _ rfl _ 8 rfl _ rfl r3 rfl (qG B (by omega) ?_); have hnB := od.neT r3 (by decide); clear r3 B; intro wn r3 ze zf zg B; replace od := od.chgB ze hnB; clear hnB; (try replace r1 := r1.of_eq (ze.block _ r1.lt (by omega))); (try replace r2 := r2.of_eq (ze.block _ r2.lt (by omega))); simp only [zn])
  refine wpList_nil ?_; replace r3 : zJ 30 _ b_r3 (qR (.slice (some ⟨g, 0, none⟩) n c3) ⟨s.pts, s.rad, s.spa, s.col, s.era, val⟩) := r3; go_upto_region 21 with fail
  refine wp_region_lit ?_; refine zy 1 ?_
  (refine zq (t := 30) rfl _ _ rfl _ rfl _ rfl r2 (by kernel_rfl) rfl (by simp [qR, Value.oneCell']) (qG B (by omega) ?_); clear r2 B; intro wn r2 ze zf zg B; replace od := od.chg ze (by omega); (try replace r1 := r1.of_eq (ze.block _ r1.lt (by omega))); (try replace r3 := r3.of_eq (ze.block _ r3.lt (by omega))); simp only [zn])
  refine wpList_nil ?_; first | (refine bodyPost_ret (zv (t := 30) rfl _ _ (b_r2) rfl r2 Tryz.isAgg30 (by kernel_rfl)) rfl ?_) | (go_step; refine bodyPost_ret (zv (t := 30) rfl _ _ (b_r2) rfl r2 Tryz.isAgg30 (by kernel_rfl)) rfl ?_) | (go_step; go_step; refine bodyPost_ret (zv (t := 30) rfl _ _ (b_r2) rfl r2 Tryz.isAgg30 (by kernel_rfl)) rfl ?_) | (go_step; go_step; go_step; refine bodyPost_ret (zv (t := 30) rfl _ _ (b_r2) rfl r2 Tryz.isAgg30 (by kernel_rfl)) rfl ?_) | (go_step; go_step; go_step; go_step; refine bodyPost_ret (zv (t := 30) rfl _ _ (b_r2) rfl r2 Tryz.isAgg30 (by kernel_rfl)) rfl ?_) | (go_step; go_step; go_step; go_step; go_step; refine bodyPost_ret (zv (t := 30) rfl _ _ (b_r2) rfl r2 Tryz.isAgg30 (by kernel_rfl)) rfl ?_)
  rw [HS.out]; exact ⟨_, rfl, od.rs, B⟩
 ·have HS := Lib.hid (show S' = ⟨[], s.rad, s.spa, s.col, s.era, s.pha⟩ from by rw [← HE.out]; rw [hx]; simp [KA, HLN.out])
  have q1 : (C == 1) = false := by rw [hx]; rfl
  have p1 : decide (C = 1) = false := by rw [hx]; rfl
  have q2 : (C == 2) = false := by rw [hx]; rfl
  have p2 : decide (C = 2) = false := by rw [hx]; rfl
  have q3 : (C == 3) = false := by rw [hx]; rfl
  have p3 : decide (C = 3) = false := by rw [hx]; rfl
  have q4 : (C == 4) = false := by rw [hx]; rfl
  have p4 : decide (C = 4) = false := by rw [hx]; rfl
  have q5 : (C == 5) = false := by rw [hx]; rfl
  have p5 : decide (C = 5) = false := by rw [hx]; rfl
  have q6 : (C == 6) = false := by rw [hx]; rfl
  have p6 : decide (C = 6) = false := by rw [hx]; rfl
  have q7 : (C == 7) = true := by rw [hx]; rfl
  have p7 : decide (C = 7) = true := by rw [hx]; rfl
  have q8 : (C == 8) = false := by rw [hx]; rfl
  have p8 : decide (C = 8) = false := by rw [hx]; rfl
  clear HE hx hC0; go_upto_region 4 with fail
  refine wp_region_lit ?_; refine zy 2 ?_; refine wpList_nil ?_; go_upto_region 6 with fail
  refine wp_region_lit ?_; refine zy 2 ?_; refine wpList_nil ?_; go_upto_region 8 with fail
  refine wp_region_lit ?_; refine zy 2 ?_; refine wpList_nil ?_; go_upto_region 10 with fail
  refine wp_region_lit ?_; refine zy 2 ?_; refine wpList_nil ?_; go_upto_region 12 with fail
  refine wp_region_lit ?_; refine zy 2 ?_; refine wpList_nil ?_; go_upto_region 14 with fail
  refine wp_region_lit ?_; refine zy 2 ?_; refine wpList_nil ?_; go_upto_region 16 with fail
  refine wp_region_lit ?_; refine zy 2 ?_; refine wpList_nil ?_; go_upto_region 17 with fail
  refine wp_region_lit ?_; refine zy 1 ?_
  (refine xw (t := 30) rfl _ _ rfl _ 0 rfl _ _ _ rfl r3 rfl (qG B (by omega) ?_); have hnB := od.neT r3 (by decide); clear r3 B; intro wn r3 ze zf zg B; replace od := od.chgB ze hnB; clear hnB; (try replace r1 := r1.of_eq (ze.block _ r1.lt (by omega))); (try replace r2 := r2.of_eq (ze.block _ r2.lt (by omega))); simp only [zn])
  refine wpList_nil ?_; replace r3 : zJ 30 _ b_r3 (qR (.slice none 0 0) ⟨[], s.rad, s.spa, s.col, s.era, s.pha⟩) := r3; go_upto_region 21 with fail
  refine wp_region_lit ?_; refine zy 1 ?_
  (refine zq (t := 30) rfl _ _ rfl _ rfl _ rfl r2 (by kernel_rfl) rfl (by simp [qR, Value.oneCell']) (qG B (by omega) ?_); clear r2 B; intro wn r2 ze zf zg B; replace od := od.chg ze (by omega); (try replace r1 := r1.of_eq (ze.block _ r1.lt (by omega))); (try replace r3 := r3.of_eq (ze.block _ r3.lt (by omega))); simp only [zn])
  refine wpList_nil ?_; first | (refine bodyPost_ret (zv (t := 30) rfl _ _ (b_r2) rfl r2 Tryz.isAgg30 (by kernel_rfl)) rfl ?_) | (go_step; refine bodyPost_ret (zv (t := 30) rfl _ _ (b_r2) rfl r2 Tryz.isAgg30 (by kernel_rfl)) rfl ?_) | (go_step; go_step; refine bodyPost_ret (zv (t := 30) rfl _ _ (b_r2) rfl r2 Tryz.isAgg30 (by kernel_rfl)) rfl ?_) | (go_step; go_step; go_step; refine bodyPost_ret (zv (t := 30) rfl _ _ (b_r2) rfl r2 Tryz.isAgg30 (by kernel_rfl)) rfl ?_) | (go_step; go_step; go_step; go_step; refine bodyPost_ret (zv (t := 30) rfl _ _ (b_r2) rfl r2 Tryz.isAgg30 (by kernel_rfl)) rfl ?_) | (go_step; go_step; go_step; go_step; go_step; refine bodyPost_ret (zv (t := 30) rfl _ _ (b_r2) rfl r2 Tryz.isAgg30 (by kernel_rfl)) rfl ?_)
  rw [HS.out]; exact ⟨_, rfl, (qE.nil (E := qQ) 0 _).rs, B⟩
 ·have HS := Lib.hid (show S' = ⟨vZ s.pts (ofN val - n), s.rad, s.spa, s.col, s.era, s.pha⟩ from by rw [← HE.out]; rw [hx]; simp [KA, HLN.out])
  have q1 : (C == 1) = false := by rw [hx]; rfl
  have p1 : decide (C = 1) = false := by rw [hx]; rfl
  have q2 : (C == 2) = false := by rw [hx]; rfl
  have p2 : decide (C = 2) = false := by rw [hx]; rfl
  have q3 : (C == 3) = false := by rw [hx]; rfl
  have p3 : decide (C = 3) = false := by rw [hx]; rfl
  have q4 : (C == 4) = false := by rw [hx]; rfl
  have p4 : decide (C = 4) = false := by rw [hx]; rfl
  have q5 : (C == 5) = false := by rw [hx]; rfl
  have p5 : decide (C = 5) = false := by rw [hx]; rfl
  have q6 : (C == 6) = false := by rw [hx]; rfl
  have p6 : decide (C = 6) = false := by rw [hx]; rfl
  have q7 : (C == 7) = false := by rw [hx]; rfl
  have p7 : decide (C = 7) = false := by rw [hx]; rfl
  have q8 : (C == 8) = true := by rw [hx]; rfl
  have p8 : decide (C = 8) = true := by rw [hx]; rfl
  clear HE hx hC0; go_upto_region 4 with fail
  refine wp_region_lit ?_; refine zy 2 ?_; refine wpList_nil ?_; go_upto_region 6 with fail
  refine wp_region_lit ?_; refine zy 2 ?_; refine wpList_nil ?_; go_upto_region 8 with fail
  refine wp_region_lit ?_; refine zy 2 ?_; refine wpList_nil ?_; go_upto_region 10 with fail
  refine wp_region_lit ?_; refine zy 2 ?_; refine wpList_nil ?_; go_upto_region 12 with fail
  refine wp_region_lit ?_; refine zy 2 ?_; refine wpList_nil ?_; go_upto_region 14 with fail
  refine wp_region_lit ?_; refine zy 2 ?_; refine wpList_nil ?_; go_upto_region 16 with fail
  refine wp_region_lit ?_; refine zy 2 ?_; refine wpList_nil ?_; go_upto_region 18 with fail
  refine wp_region_lit ?_; refine zy 2 ?_; refine wpList_nil ?_; have hT : (ofN val : Int) = 64 + val % 2 := by unfold ofN; omega
  have HT := Lib.hid hT; obtain ⟨T, hTT⟩ : ∃ T, ofN val = T := ⟨_, rfl⟩; rw [hTT] at HT HS; clear hT hTT; have hTb : 64 ≤ T ∧ T ≤ 65 := by have := HT.out; omega
  have k6 : b0 ≤ wn.heap.size := by have := (World.ownsRow.lt od g rfl).2; omega
  clear q1 q2 q3 q4 q5 q6 q7 q8 p1 p2 p3 p4 p5 p6 p7 p8 hg3 hgb; go_wp2; go_loopw [] (fun wr => ∃ (k m cp : Nat) (ad : Option Addr) (P : List Sp), Hid (m = n + k) ∧ m ≤ T ∧ Hid (vZ s.pts k = P) ∧ Below w.heap.size w wr ∧ b0 ≤ wr.heap.size ∧ zJ 24 wr b_r1 #[.slice aL L.length cL, .int .i64 how, .int .i64 val] ∧ zJ 30 wr b_r2 #[.slice none 0 0, .int .i64 0, .int .i64 0, .int .u8 0, .int .u8 0, .int .u8 0, .int .u8 0, .bool false, .int .i64 0] ∧ zJ 30 wr b_r3 (qR (.slice ad m cp) s) ∧ qE qQ b0 (.slice ad m cp) P wr) (fun wr => T - zgT (wr.cell? ⟨b_r3, 0, none⟩))
  case atStart => exact ⟨0, n, c3, _, s.pts, Lib.hid (by omega), by omega, Lib.hid (by simp [vZ, Xj]), B, k6, r1, r2, r3, od⟩
  case round =>
   clear B r1 r2 r3 od k6; obtain ⟨k, m, cp, ad, P, Hm, hmT, HP, B, k6, r1, r2, r3, od⟩ := hrel; have hmP : P.length = m := by rw [← HP.out, Jk, Hm.out, HLN.out]
   have hPm := Lib.hid (show m = P.length from hmP.symm); have HPM := Lib.hid (show (P ++ [(⟨(m : Int), 0, 9⟩ : Sp)]).length = m + 1 from by rw [List.length_append, hmP]; rfl)
   have hPlen : P.length ≤ 65 := by omega
   have HOLD := Lib.hid (Wm r3); clear hmP; by_cases zh : m < T
   ·have hmb : (m : Int) < 64 + val % 2 := by have := HT.out; omega
    have q1 : decide ((m : Int) < 64 + val % 2) = true := decide_eq_true hmb; have vb : 0 ≤ val % 2 ∧ val % 2 ≤ 1 := by omega
    have HNX := Lib.hid (show vZ s.pts (k + 1) = P ++ [⟨(m : Int), 0, 9⟩] from by rw [KH, HP.out, HLN.out, ← Hm.out]); go_upto_region 19 with fail
    refine wp_region_lit ?_; refine zy 2 ?_
    refine zw (by first | rfl | simp [Region.wanted, yielded]) rfl Tryz.underlying26 rfl ?_; simp only [zn]; refine zy 5 ?_
    refine wpList_nil ?_; go_upto_region 20 with fail
    refine wp_region_lit ?_; refine zy 4 ?_
    refine zw (by first | rfl | simp [Region.wanted, yielded]) rfl Tryz.underlying26 rfl ?_; simp only [zn]
    (refine zV rfl (.agg #[.int .i64 (m : Int), .int .i64 0, .int .i64 9]) (by first | rfl | kernel_rfl | simp [go_sem, Act.eval]) ?_; simp only [zn])
    (refine wu (E := qQ) rfl _ rfl (⟨(m : Int), 0, 9⟩) rfl (by omega) (z6 B ?_); clear B; intro b_s79 wn zb zd s79 za zf zk B; replace od := od.below (za.mono zb); (try have zh := r1.lt); (try replace r1 := r1.below (za.mono zb)); (try have zh := r2.lt); (try replace r2 := r2.below (za.mono zb)); (try have zh := r3.lt); (try replace r3 := r3.below (za.mono zb)); simp only [zn])
    (refine wt rfl _ _ rfl _ _ rfl rfl od (j9.one s79) (by simp only [List.length_cons, List.length_nil]; omega) (by omega) ?_; intro v_od wn ht hg; have zf := B.size; have hbz := hg.size; replace B := kN B zf hg (fun r e => by have := (World.ownsRow.lt od r e).1; omega); replace r1 := r1.grown hg (fun e => od.neT r1 (by decide) _ e rfl); replace r2 := r2.grown hg (fun e => od.neT r2 (by decide) _ e rfl); replace r3 := r3.grown hg (fun e => od.neT r3 (by decide) _ e rfl); clear od s79 hg; have od := ht; clear ht; obtain ⟨a_od, c_od, hv, hco⟩ := od.len; rw [HPM.out] at hv; subst hv; simp only [zn])
    refine zy 1 ?_
    (refine xw (t := 30) rfl _ _ rfl _ 0 rfl _ _ _ rfl r3 rfl (qG B (by omega) ?_); have hnB := od.neT r3 (by decide); clear r3 B; intro wn r3 ze zf zg B; replace od := od.chgB ze hnB; clear hnB; (try replace r1 := r1.of_eq (ze.block _ r1.lt (by omega))); (try replace r2 := r2.of_eq (ze.block _ r2.lt (by omega))); simp only [zn])
    refine wpList_nil ?_; replace r3 : zJ 30 _ b_r3 (qR (.slice a_od (m + 1) c_od) s) := r3; have HNEW := Lib.hid (Wm r3); go_wp2; go_roundw
    case rel => exact ⟨k + 1, m + 1, _, _, P ++ [⟨(m : Int), 0, 9⟩], Lib.hid (by rw [Hm.out]; omega), by omega, HNX, B, by omega, r1, r2, r3, od⟩
    case measure => rw [HOLD.out, HNEW.out]; show T - (m + 1) < T - m; omega
   ·have hmb : ¬ (m : Int) < 64 + val % 2 := by have := HT.out; omega
    have q1 : decide ((m : Int) < 64 + val % 2) = false := decide_eq_false hmb; have vb : 0 ≤ val % 2 ∧ val % 2 ≤ 1 := by omega
    have HFI := Lib.hid (show vZ s.pts (T - n) = P from by rw [← HP.out]; congr 1; have := Hm.out; omega)
    go_upto_region 19 with fail
    refine wp_region_lit ?_; refine zy 2 ?_
    refine zw (by first | rfl | simp [Region.wanted, yielded]) rfl Tryz.underlying26 rfl ?_; simp only [zn]; refine zy 5 ?_
    refine wpList_nil ?_; go_upto_region 21 with fail
    refine wp_region_lit ?_; refine zy 1 ?_
    (refine zq (t := 30) rfl _ _ rfl _ rfl _ rfl r2 (by kernel_rfl) rfl (by simp [qR, Value.oneCell']) (qG B (by omega) ?_); clear r2 B; intro wn r2 ze zf zg B; replace od := od.chg ze (by omega); (try replace r3 := r3.of_eq (ze.block _ r3.lt (by omega))); simp only [zn])
    refine wpList_nil ?_; first | (refine bodyPost_ret (zv (t := 30) rfl _ _ (b_r2) rfl r2 Tryz.isAgg30 (by kernel_rfl)) rfl ?_) | (go_step; refine bodyPost_ret (zv (t := 30) rfl _ _ (b_r2) rfl r2 Tryz.isAgg30 (by kernel_rfl)) rfl ?_) | (go_step; go_step; refine bodyPost_ret (zv (t := 30) rfl _ _ (b_r2) rfl r2 Tryz.isAgg30 (by kernel_rfl)) rfl ?_) | (go_step; go_step; go_step; refine bodyPost_ret (zv (t := 30) rfl _ _ (b_r2) rfl r2 Tryz.isAgg30 (by kernel_rfl)) rfl ?_) | (go_step; go_step; go_step; go_step; refine bodyPost_ret (zv (t := 30) rfl _ _ (b_r2) rfl r2 Tryz.isAgg30 (by kernel_rfl)) rfl ?_) | (go_step; go_step; go_step; go_step; go_step; refine bodyPost_ret (zv (t := 30) rfl _ _ (b_r2) rfl r2 Tryz.isAgg30 (by kernel_rfl)) rfl ?_)
    rw [HS.out, HFI.out]; exact ⟨_, rfl, od.rs, B⟩
 ·have HS := Lib.hid (show S' = s from by rw [← HE.out]; obtain ⟨h1, h2, h3, h4, h5, h6, h7, h8⟩ := hx; simp [KA, h1, h2, h3, h4, h5, h6, h7, h8])
  have q1 : (C == 1) = false := by obtain ⟨h1, h2, h3, h4, h5, h6, h7, h8⟩ := hx; simp [h1]
  have p1 : decide (C = 1) = false := by obtain ⟨h1, h2, h3, h4, h5, h6, h7, h8⟩ := hx; simp [h1]
  have q2 : (C == 2) = false := by obtain ⟨h1, h2, h3, h4, h5, h6, h7, h8⟩ := hx; simp [h2]
  have p2 : decide (C = 2) = false := by obtain ⟨h1, h2, h3, h4, h5, h6, h7, h8⟩ := hx; simp [h2]
  have q3 : (C == 3) = false := by obtain ⟨h1, h2, h3, h4, h5, h6, h7, h8⟩ := hx; simp [h3]
  have p3 : decide (C = 3) = false := by obtain ⟨h1, h2, h3, h4, h5, h6, h7, h8⟩ := hx; simp [h3]
  have q4 : (C == 4) = false := by obtain ⟨h1, h2, h3, h4, h5, h6, h7, h8⟩ := hx; simp [h4]
  have p4 : decide (C = 4) = false := by obtain ⟨h1, h2, h3, h4, h5, h6, h7, h8⟩ := hx; simp [h4]
  have q5 : (C == 5) = false := by obtain ⟨h1, h2, h3, h4, h5, h6, h7, h8⟩ := hx; simp [h5]
  have p5 : decide (C = 5) = false := by obtain ⟨h1, h2, h3, h4, h5, h6, h7, h8⟩ := hx; simp [h5]
  have q6 : (C == 6) = false := by obtain ⟨h1, h2, h3, h4, h5, h6, h7, h8⟩ := hx; simp [h6]
  have p6 : decide (C = 6) = false := by obtain ⟨h1, h2, h3, h4, h5, h6, h7, h8⟩ := hx; simp [h6]
  have q7 : (C == 7) = false := by obtain ⟨h1, h2, h3, h4, h5, h6, h7, h8⟩ := hx; simp [h7]
  have p7 : decide (C = 7) = false := by obtain ⟨h1, h2, h3, h4, h5, h6, h7, h8⟩ := hx; simp [h7]
  have q8 : (C == 8) = false := by obtain ⟨h1, h2, h3, h4, h5, h6, h7, h8⟩ := hx; simp [h8]
  have p8 : decide (C = 8) = false := by obtain ⟨h1, h2, h3, h4, h5, h6, h7, h8⟩ := hx; simp [h8]
  clear HE hx hC0; go_upto_region 4 with fail
  refine wp_region_lit ?_; refine zy 2 ?_; refine wpList_nil ?_; go_upto_region 6 with fail
  refine wp_region_lit ?_; refine zy 2 ?_; refine wpList_nil ?_; go_upto_region 8 with fail
  refine wp_region_lit ?_; refine zy 2 ?_; refine wpList_nil ?_; go_upto_region 10 with fail
  refine wp_region_lit ?_; refine zy 2 ?_; refine wpList_nil ?_; go_upto_region 12 with fail
  refine wp_region_lit ?_; refine zy 2 ?_; refine wpList_nil ?_; go_upto_region 14 with fail
  refine wp_region_lit ?_; refine zy 2 ?_; refine wpList_nil ?_; go_upto_region 16 with fail
  refine wp_region_lit ?_; refine zy 2 ?_; refine wpList_nil ?_; go_upto_region 18 with fail
  refine wp_region_lit ?_; refine zy 2 ?_; refine wpList_nil ?_; go_upto_region 21 with fail
  refine wp_region_lit ?_; refine zy 1 ?_
  (refine zq (t := 30) rfl _ _ rfl _ rfl _ rfl r2 (by kernel_rfl) rfl (by simp [qR, Value.oneCell']) (qG B (by omega) ?_); clear r2 B; intro wn r2 ze zf zg B; replace od := od.chg ze (by omega); simp only [zn])
  refine wpList_nil ?_; first | (refine bodyPost_ret (zv (t := 30) rfl _ _ (b_r2) rfl r2 Tryz.isAgg30 (by kernel_rfl)) rfl ?_) | (go_step; refine bodyPost_ret (zv (t := 30) rfl _ _ (b_r2) rfl r2 Tryz.isAgg30 (by kernel_rfl)) rfl ?_) | (go_step; go_step; refine bodyPost_ret (zv (t := 30) rfl _ _ (b_r2) rfl r2 Tryz.isAgg30 (by kernel_rfl)) rfl ?_) | (go_step; go_step; go_step; refine bodyPost_ret (zv (t := 30) rfl _ _ (b_r2) rfl r2 Tryz.isAgg30 (by kernel_rfl)) rfl ?_) | (go_step; go_step; go_step; go_step; refine bodyPost_ret (zv (t := 30) rfl _ _ (b_r2) rfl r2 Tryz.isAgg30 (by kernel_rfl)) rfl ?_) | (go_step; go_step; go_step; go_step; go_step; refine bodyPost_ret (zv (t := 30) rfl _ _ (b_r2) rfl r2 Tryz.isAgg30 (by kernel_rfl)) rfl ?_)
  rw [HS.out]; exact ⟨_, rfl, od.rs, B⟩
theorem zc0 (vL : Value) (L : List Int) (how val : Int) (S' : qS) (w : World) (ls : j9 inE vL L w) (hn : L.length ≤ 17592186044416) (e : ofS L how val = S') : Calls Tryz.prog 14 #[.agg #[vL, .int .i64 how, .int .i64 val]] w fun e w' => ∃ a c, e = .returned (.agg (qR (.slice a S'.pts.length c) S')) ∧ j9 qQ (.slice a S'.pts.length c) S'.pts w' ∧ Below w.heap.size w w' :=
 (zeI vL L how val S' w ls hn e).mono fun e w' ⟨v', h1, h2, h3⟩ => by
  obtain ⟨a, c, rfl, _⟩ := h2.len; exact ⟨_, _, h1, h2, h3⟩
end Go.Proofs.YtepelndbbhdofaaGreatDoor
/- Plain: an image of one raster pasted into another. -/
namespace Go.Proofs.YtepelndbbhdofaaGreatDoor
open Go.RowKit Pl
set_option linter.unusedVariables false
set_option linter.unusedSimpArgs false
end Go.Proofs.YtepelndbbhdofaaGreatDoor
/- Plain: what the laws on painted strokes (StrokeErase, StrokeHalves, StrokeArea) say. -/
namespace Go.Proofs.YtepelndbbhdofaaGreatDoor
open Go.RowKit Pl
set_option linter.unusedVariables false
set_option linter.unusedSimpArgs false
set_option maxRecDepth 20000
/-! ### StrokeErase -/
def zhK (s : qS) : qS := { s with era := true }
def zh6 (s : qS) : qS := { s with era := false, col := ⟨s.col.r, s.col.g, s.col.b, 255⟩ }
/-! ### StrokeHalves -/
/-! ### StrokeArea -/
def zif (p : Int × Int) : Rc := ⟨8 * p.1, 8 * p.2, 8 * p.1 + 8, 8 * p.2 + 8⟩
/- Plain: what StrokeShift says. -/
def zhD (X Y : Int) : Rc := ⟨(X - 11) / 8, (Y - 11) / 8, (X + 22) / 8 + 1, (Y + 22) / 8 + 1⟩
end Go.Proofs.YtepelndbbhdofaaGreatDoor
/- Changed of package raster. -/
namespace Go.Proofs.YtepelndbbhdofaaGreatDoor
open Go.RowKit Go.Shelf Pl
set_option linter.unusedVariables false
set_option linter.unusedSimpArgs false
set_option maxRecDepth 20000
def zhO : Value → Nat
 | .slice _ n _ => n
 | _ => 0
/- Contracts in the shape of chapter 14's laws: pixels by their parts, painting of made strokes. -/
end Go.Proofs.YtepelndbbhdofaaGreatDoor
/- Contracts for the laws on changed strokes: Split in both cases, lists of dabs known by a fact, appends onto an empty row. -/
namespace Go.Proofs.YtepelndbbhdofaaGreatDoor
open Go Go.RowKit Go.Shelf Pl
set_option linter.unusedVariables false
set_option linter.unusedSimpArgs false
set_option maxRecDepth 20000
section
variable {α : Type} {k : Nat} {T ST : TypeId} {E : Q3 α k T ST} {o : Oper} {a : Act} {w : World} {Q : Exit → Act → World → Prop}
end
/-- A list of dabs handed back. -/
def zhH (D : List Db) : jB := ⟨Option Addr × Nat, ⟨(none, 0)⟩, fun p => .slice p.1 D.length p.2, fun p w => j9 vj (.slice p.1 D.length p.2) D w, fun _ _ _ hb h => h.below hb⟩
def zhg (B : Nat) : jB := ⟨Nat, ⟨0⟩, fun b => .slice (some ⟨b, 0, none⟩) 0 0, fun b w => qE vj B (.slice (some ⟨b, 0, none⟩) 0 0) [] w, fun _ _ _ hb h => h.below hb⟩
def zhI (B : Nat) (D : List Db) : jB := ⟨Option Addr × Nat, ⟨(none, 0)⟩, fun p => .slice p.1 D.length p.2, fun p w => qE vj B (.slice p.1 D.length p.2) D w, fun _ _ _ hb h => h.below hb⟩
/-! ### Split -/
def zid (s : qS) (z : Int) : qS × qS × Int := if ju s = true ∧ 1 ≤ z ∧ z + 2 ≤ s.pts.length then (spA s z.toNat, spB s z.toNat, 0) else (qS.none, qS.none, 1)
section
variable {t : TypeId} {w : World} {b : Nat} {v u : Value} {s r : qS} {n : Int}
theorem Xx {w : World} {b j : Nat} {z : Value} (h : w.cell? ⟨b, j, none⟩ = some z) : (Instr.loadAt 53 (.pointer (some ⟨b, j, none⟩))).run Tryz.prog w = .ok z w := by
 simp [go_sem, h]
end
end Go.Proofs.YtepelndbbhdofaaGreatDoor
/- Contract of the reference's Read. -/
namespace Go.Proofs.YtepelndbbhdofaaGreatDoor
open Go.RowKit Go.Shelf Pl Sha
set_option linter.unusedVariables false
set_option linter.unusedSimpArgs false
set_option maxRecDepth 20000
theorem ZY {l : List UInt8} {i : Nat} (h : i < l.length) : beN (qw l i 1) = (l.getD i 0).toNat := by
 have e : qw l i 1 = [l.getD i 0] := by
  unfold qw; rw [List.getD_eq_getElem?_getD, List.getElem?_eq_getElem h, Option.getD_some, List.drop_eq_getElem_cons h]
  rfl
 rw [e]
 show 256 * 0 + (l.getD i 0).toNat = _
 omega
theorem vY {l : List UInt8} {i m : Nat} (hm : m ≤ 3) : beN (qw l i m) < 16777216 :=
 Nat.lt_of_lt_of_le (vh (qw l i m)) (by
  rw [show (16777216 : Nat) = 256 ^ 3 from rfl]; exact Nat.pow_le_pow_right (by omega) (by unfold qw; rw [List.length_take]; omega))
def J5 (v : Value) (s : qS) (n : Int) : Array Value := #[v, .int .i64 s.rad, .int .i64 s.spa, .int .u8 s.col.r, .int .u8 s.col.g, .int .u8 s.col.b, .int .u8 s.col.a, .bool s.era, .int .i64 s.pha, .int .i64 n]
theorem yi (w : World) (o : Oper) (ho : o.op = .alloc 78) (ev : Operand → Value) : (execOp ev o).run Tryz.prog w = .ok (.value (.pointer (some ⟨w.heap.size, 0, none⟩))) (w.alloc (.cells (J5 (.slice none 0 0) Z8 0) 78)) := by
 obtain ⟨d, p, t, ps, af, gd⟩ := o
 simp only at ho
 subst ho
 kernel_rfl
set_option maxHeartbeats 8000000 in
theorem zdl (l : List UInt8) (S : qS) (E : Int) (w : World) (hl : l.length ≤ 100000000) (e : xQ l = (S, E)) : Calls Tryz.prog 36 #[.string (jk l)] w fun e w' => ∃ v, e = .returned (.agg (J5 v S E)) ∧ j9 qQ v S.pts w' ∧ Below w.heap.size w w' := by
 have B := Below.refl w.heap.size w
 have HE := Lib.hid e
 clear e
 have hpn : xV l < 256 := by have := vh (qw l 0 1); unfold xV; exact Nat.lt_of_lt_of_le this (by rw [show (256 : Nat) = 256 ^ 1 from rfl]; exact Nat.pow_le_pow_right (by omega) (by unfold qw; rw [List.length_take]; omega))
 obtain ⟨N, hN⟩ : ∃ n, xV l = n := ⟨_, rfl⟩
 rw [hN] at hpn
 have HN := Lib.hid hN
 clear hN
 by_cases hz : l.length = 0
 ·have hS := HE.out
  rw [vq (by rw [HN.out]; omega)] at hS
  injection hS with e1 e2
  subst e1 e2; have q1 : decide ((l.length : Int) < 1) = true := decide_eq_true (by omega); have q2 : decide (l.length < 1) = true := decide_eq_true (by omega); clear HE HN hz; go_enter Tryz.func36, Tryz.ntmps36
  go_upto_region 0 with fail
  refine wp_region_lit ?_
  (refine zu (t := 78) rfl _ (yi _ _ rfl) (z6 B ?_); clear B; intro b_r2 wn zb zd r2 za zf zk B; simp only [zn])
  refine wpList_nil ?_; go_upto_region 1 with fail
  refine wp_region_lit ?_; refine zy 1 ?_; refine jE (by first | rfl | simp [Region.wanted, yielded]) rfl Tryz.underlying9 _ rfl ?_; simp only [zn]; refine zy 3 ?_; refine qF ?hs2_5 ?_
  case hs2_5 => kernel_rfl
  simp only [zn]; refine zy 7 ?_; refine wpList_nil ?_; go_upto_region 2 with fail
  refine wp_region_lit ?_
  (refine zV rfl (.agg (J5 (.slice none 0 0) Z8 10)) (by first | rfl | kernel_rfl | simp [go_sem, Act.eval]) ?_; simp only [zn])
  (refine zq (t := 78) rfl _ _ rfl _ rfl _ rfl r2 (by kernel_rfl) rfl (by simp [qR, J5, Value.oneCell']) (qG B (by omega) ?_); clear r2 B; intro wn r2 ze zf zg B; simp only [zn])
  refine wpList_nil ?_; first | (refine bodyPost_ret (zv (t := 78) rfl _ _ (b_r2) rfl r2 Tryz.isAgg78 (by kernel_rfl)) rfl ?_) | (go_step; refine bodyPost_ret (zv (t := 78) rfl _ _ (b_r2) rfl r2 Tryz.isAgg78 (by kernel_rfl)) rfl ?_) | (go_step; go_step; refine bodyPost_ret (zv (t := 78) rfl _ _ (b_r2) rfl r2 Tryz.isAgg78 (by kernel_rfl)) rfl ?_) | (go_step; go_step; go_step; refine bodyPost_ret (zv (t := 78) rfl _ _ (b_r2) rfl r2 Tryz.isAgg78 (by kernel_rfl)) rfl ?_) | (go_step; go_step; go_step; go_step; refine bodyPost_ret (zv (t := 78) rfl _ _ (b_r2) rfl r2 Tryz.isAgg78 (by kernel_rfl)) rfl ?_) | (go_step; go_step; go_step; go_step; go_step; refine bodyPost_ret (zv (t := 78) rfl _ _ (b_r2) rfl r2 Tryz.isAgg78 (by kernel_rfl)) rfl ?_)
  exact ⟨.slice none 0 0, rfl, (qE.nil (E := qQ) 0 _).rs, B⟩
 ·have q1 : decide ((l.length : Int) < 1) = false := decide_eq_false (by omega)
  have q2 : decide (l.length < 1) = false := decide_eq_false (by omega); have HC0 := Lib.hid (show (l.getD 0 0).toNat = N from by rw [← HN.out]; exact (ZY (by omega)).symm)
  by_cases hsh : l.length < 13 + 7 * N
  ·have hS := HE.out
   rw [vq (by rw [HN.out]; exact hsh)] at hS
   injection hS with e1 e2
   subst e1 e2; have q3 : decide ((l.length : Int) < 13 + 7 * (N : Int)) = true := decide_eq_true (by omega); clear HE HN; go_enter Tryz.func36, Tryz.ntmps36
   go_upto_region 0 with fail
   refine wp_region_lit ?_
   (refine zu (t := 78) rfl _ (yi _ _ rfl) (z6 B ?_); clear B; intro b_r2 wn zb zd r2 za zf zk B; simp only [zn])
   refine wpList_nil ?_; go_upto_region 1 with fail
   refine wp_region_lit ?_; refine jp 1 ?_; repeat (first | go_big_quiet_skip | (go_big_quiet_want; first | ((first | refine zM rfl l rfl _ rfl (0) N (by omega) (by first | rfl | omega) HC0.out ?_ | refine qB ?_ | refine qC ?_); simp only [zn]; go_big_quiet_on) | (go_big_quiet_op; go_big_quiet_on)))
   refine wpQuiet_nil ?_; refine jE (by first | rfl | simp [Region.wanted, yielded]) rfl Tryz.underlying9 _ rfl ?_; simp only [zn]; refine jp 3 ?_; repeat (first | go_big_quiet_skip | (go_big_quiet_want; first | ((first | refine zM rfl l rfl _ rfl (0) N (by omega) (by first | rfl | omega) HC0.out ?_ | refine qB ?_ | refine qC ?_); simp only [zn]; go_big_quiet_on) | (go_big_quiet_op; go_big_quiet_on)))
   refine wpQuiet_nil ?_; refine jE (by first | rfl | simp [Region.wanted, yielded]) rfl Tryz.underlying9 _ rfl ?_; simp only [zn]; refine jp 7 ?_; repeat (first | go_big_quiet_skip | (go_big_quiet_want; first | ((first | refine zM rfl l rfl _ rfl (0) N (by omega) (by first | rfl | omega) HC0.out ?_ | refine qB ?_ | refine qC ?_); simp only [zn]; go_big_quiet_on) | (go_big_quiet_op; go_big_quiet_on)))
   refine wpQuiet_nil ?_; refine wpList_nil ?_; go_upto_region 2 with fail
   refine wp_region_lit ?_
   (refine zV rfl (.agg (J5 (.slice none 0 0) Z8 10)) (by first | rfl | kernel_rfl | simp [go_sem, Act.eval]) ?_; simp only [zn])
   (refine zq (t := 78) rfl _ _ rfl _ rfl _ rfl r2 (by kernel_rfl) rfl (by simp [qR, J5, Value.oneCell']) (qG B (by omega) ?_); clear r2 B; intro wn r2 ze zf zg B; simp only [zn])
   refine wpList_nil ?_; first | (refine bodyPost_ret (zv (t := 78) rfl _ _ (b_r2) rfl r2 Tryz.isAgg78 (by kernel_rfl)) rfl ?_) | (go_step; refine bodyPost_ret (zv (t := 78) rfl _ _ (b_r2) rfl r2 Tryz.isAgg78 (by kernel_rfl)) rfl ?_) | (go_step; go_step; refine bodyPost_ret (zv (t := 78) rfl _ _ (b_r2) rfl r2 Tryz.isAgg78 (by kernel_rfl)) rfl ?_) | (go_step; go_step; go_step; refine bodyPost_ret (zv (t := 78) rfl _ _ (b_r2) rfl r2 Tryz.isAgg78 (by kernel_rfl)) rfl ?_) | (go_step; go_step; go_step; go_step; refine bodyPost_ret (zv (t := 78) rfl _ _ (b_r2) rfl r2 Tryz.isAgg78 (by kernel_rfl)) rfl ?_) | (go_step; go_step; go_step; go_step; go_step; refine bodyPost_ret (zv (t := 78) rfl _ _ (b_r2) rfl r2 Tryz.isAgg78 (by kernel_rfl)) rfl ?_)
   exact ⟨.slice none 0 0, rfl, (qE.nil (E := qQ) 0 _).rs, B⟩
  ·have q3 : decide ((l.length : Int) < 13 + 7 * (N : Int)) = false := decide_eq_false (by omega)
   go_enter Tryz.func36, Tryz.ntmps36
   go_upto_region 0 with fail
   refine wp_region_lit ?_
   (refine zu (t := 78) rfl _ (yi _ _ rfl) (z6 B ?_); clear B; intro b_r2 wn zb zd r2 za zf zk B; simp only [zn])
   refine wpList_nil ?_; have hr2 := r2.lt; go_upto_region 1 with fail
   refine wp_region_lit ?_; refine jp 1 ?_; repeat (first | go_big_quiet_skip | (go_big_quiet_want; first | ((first | refine zM rfl l rfl _ rfl (0) N (by omega) (by first | rfl | omega) HC0.out ?_ | refine qB ?_ | refine qC ?_); simp only [zn]; go_big_quiet_on) | (go_big_quiet_op; go_big_quiet_on)))
   refine wpQuiet_nil ?_; refine jE (by first | rfl | simp [Region.wanted, yielded]) rfl Tryz.underlying9 _ rfl ?_; simp only [zn]; refine jp 3 ?_; repeat (first | go_big_quiet_skip | (go_big_quiet_want; first | ((first | refine zM rfl l rfl _ rfl (0) N (by omega) (by first | rfl | omega) HC0.out ?_ | refine qB ?_ | refine qC ?_); simp only [zn]; go_big_quiet_on) | (go_big_quiet_op; go_big_quiet_on)))
   refine wpQuiet_nil ?_; refine jE (by first | rfl | simp [Region.wanted, yielded]) rfl Tryz.underlying9 _ rfl ?_; simp only [zn]; refine jp 7 ?_; repeat (first | go_big_quiet_skip | (go_big_quiet_want; first | ((first | refine zM rfl l rfl _ rfl (0) N (by omega) (by first | rfl | omega) HC0.out ?_ | refine qB ?_ | refine qC ?_); simp only [zn]; go_big_quiet_on) | (go_big_quiet_op; go_big_quiet_on)))
   refine wpQuiet_nil ?_; refine wpList_nil ?_; clear q1 q2 q3; go_upto_region 3 with fail
   refine wp_region_lit ?_
   (refine zV rfl (.agg (qR (.slice none 0 0) Z8)) (by first | rfl | kernel_rfl | simp [go_sem, Act.eval]) ?_; simp only [zn])
   (refine zu (t := 30) rfl _ (zW _ _ rfl) (z6 B ?_); clear B; intro b_r3 wn zb zd r3 za zf zk B; (try have zh := r2.lt); (try replace r2 := r2.below (za.mono zb)); simp only [zn])
   (refine zq (t := 30) rfl _ _ rfl _ rfl _ rfl r3 (by kernel_rfl) rfl (by simp [qR, Value.oneCell']) (qG B (by omega) ?_); clear r3 B; intro wn r3 ze zf zg B; (try replace r2 := r2.of_eq (ze.block _ r2.lt (by omega))); simp only [zn])
   refine wpList_nil ?_; replace r3 : zJ 30 _ b_r3 (qR (.slice none 0 0) Z8) := r3; have k0 : w.heap.size ≤ b_r2 := by omega
   have k1 : b_r2 < b_r3 := by omega
   have hr3 := r3.lt; obtain ⟨b0, hb0⟩ : ∃ n, n = wn.heap.size := ⟨_, rfl⟩; have k3 : b_r3 < b0 := by omega
   have k4 : b0 ≤ wn.heap.size := by omega
   have od : qE qQ b0 (.slice none 0 0) [] wn := qE.nil b0 wn; clear hb0 hr2 hr3; go_upto_region 4 with fail
   refine wp_region_lit ?_; refine zy 1 ?_; refine wpList_nil ?_; go_upto_region 5 with fail
   refine wp_region_lit ?_; refine zy 1 ?_; refine wpList_nil ?_; go_wp2; go_loopw [4, 5] (fun av iv wr => ∃ (k p cp : Nat) (ad : Option Addr) (P : List Sp), k ≤ N ∧ av = .int .i64 (p : Int) ∧ iv = .int .i64 (k : Int) ∧ Hid (p = 1 + 7 * k) ∧ p ≤ 2000 ∧ Hid ((List.range k).map (wg l) = P) ∧ Below w.heap.size w wr ∧ b0 ≤ wr.heap.size ∧ zJ 78 wr b_r2 (J5 (.slice none 0 0) Z8 0) ∧ zJ 30 wr b_r3 (qR (.slice ad P.length cp) Z8) ∧ qE qQ b0 (.slice ad P.length cp) P wr) (fun _ iv _ => (N - intOf iv).toNat)
   case atStart => exact ⟨0, 1, 0, none, [], by omega, rfl, rfl, Lib.hid rfl, by omega, Lib.hid rfl, B, k4, r2, r3, od⟩
   case round =>
    clear B r2 r3 od k4; obtain ⟨k, p, cp, ad, P, hk, rfl, rfl, Hp, hp2, HP, B, k4, r2, r3, od⟩ := hrel; have hPl : P.length = k := by rw [← HP.out, List.length_map, List.length_range]
    have HPL := Lib.hid hPl; have hPl2 : P.length ≤ 255 := by omega
    clear hPl; by_cases hkn : k < N
    ·have q1 : decide ((k : Int) < (N : Int)) = true := decide_eq_true (by omega)
     have q2 : decide (k < N) = true := decide_eq_true hkn; have hpl : p + 12 ≤ l.length := by have := Hp.out; omega
     obtain ⟨xa, hxa⟩ : ∃ n, beN (qw l p 3) = n := ⟨_, rfl⟩; obtain ⟨xb, hxb⟩ : ∃ n, beN (qw l (p + 3) 3) = n := ⟨_, rfl⟩; obtain ⟨xc, hxc⟩ : ∃ n, (l.getD (p + 6) 0).toNat = n := ⟨_, rfl⟩; have xa2 : xa < 16777216 := by rw [← hxa]; exact vY (by omega)
     have xb2 : xb < 16777216 := by rw [← hxb]; exact vY (by omega)
     have xc2 : xc < 256 := by rw [← hxc]; exact (l.getD (p + 6) 0).toNat_lt
     have HST := Lib.hid (show (List.range (k + 1)).map (wg l) = P ++ [⟨(xa : Int) - 1048576, (xb : Int) - 1048576, (xc : Int)⟩] from by
      rw [List.range_succ, List.map_append, HP.out]; show P ++ [wg l k] = _
      unfold wg; have e1 : 1 + 7 * k = p := Hp.out.symm; rw [show 4 + 7 * k = p + 3 by omega, show 7 + 7 * k = p + 6 by omega, e1, ZY (by omega), hxa, hxb, hxc])
     have HA := Lib.hid hxa; have HB := Lib.hid hxb; have HC := Lib.hid hxc; clear hxa hxb hxc; go_upto_region 6 with fail
     refine wp_region_lit ?_; refine jp 5 ?_; repeat (first | go_big_quiet_skip | (go_big_quiet_want; first | ((first | refine zM rfl l rfl _ rfl (0) N (by omega) (by first | rfl | omega) HC0.out ?_ | refine qB ?_ | refine qC ?_); simp only [zn]; go_big_quiet_on) | (go_big_quiet_op; go_big_quiet_on)))
     refine wpQuiet_nil ?_; refine wpList_nil ?_; go_upto_region 8 with fail
     try have lx_r2 := r2.lt
     try have lx_r3 := r3.lt
     try have lx_od := od.lt
     refine zF 24 [(7, zE ?v1_7), (15, zE ?v1_15), (23, bsG (wr.heap.size) 43 (qQ.enc ⟨(xa : Int) - 1048576, (xb : Int) - 1048576, (xc : Int)⟩))] (by kernel_rfl) (by kernel_rfl) (by kernel_rfl) ?_
     rotate_left 2
     simp only [jK, Nat.reduceAdd]; refine xM 7 ?_
     repeat (first | go_big_quiet_skip | (go_big_quiet_want; first | ((first | refine qJ rfl l rfl _ _ rfl rfl (p) (p + 3) (by first | rfl | omega) (by first | rfl | omega) (by omega) (by omega) 3 (by omega) ?_ | refine qJ rfl l rfl _ _ rfl rfl (p + 3) (p + 6) (by first | rfl | omega) (by first | rfl | omega) (by omega) (by omega) 3 (by omega) ?_ | refine zM rfl l rfl _ rfl (p + 6) xc (by omega) (by first | rfl | omega) HC.out ?_ | refine qB ?_ | refine qC ?_); simp only [zn]; go_big_quiet_on) | (go_big_quiet_op; go_big_quiet_on)))
     refine wpQuiet_nil ?_; refine zz (by rfl) (by first | rfl | simp [Region.wanted, yielded]) ?_ ?_
     ·intro wn za hE Kx hKx
      have zf := B.size; have zg := za.size; replace B := B.trans (za.mono B.size)
      (try replace r2 := r2.below za)
      (try replace r3 := r3.below za)
      (try replace od := od.below za)
      refine zG rfl (enters_of Tryz.func91 (by kernel_rfl) rfl) (by simp only [Act.eval, qo]; rfl) ?_
      refine (vX (qw l p 3) xa wn (by rw [yL (by omega)]; omega) HA.out).mono ?_
      rintro e wm ⟨rfl, zl⟩; refine ⟨_, rfl, ?_⟩; have hz := hKx () wm trivial zl
      dsimp only [zE] at hz
      exact hz
     rintro ⟨⟩
     dsimp only [zE]
     simp only [zn]; refine xM 7 ?_; repeat (first | go_big_quiet_skip | (go_big_quiet_want; first | ((first | refine qJ rfl l rfl _ _ rfl rfl (p) (p + 3) (by first | rfl | omega) (by first | rfl | omega) (by omega) (by omega) 3 (by omega) ?_ | refine qJ rfl l rfl _ _ rfl rfl (p + 3) (p + 6) (by first | rfl | omega) (by first | rfl | omega) (by omega) (by omega) 3 (by omega) ?_ | refine zM rfl l rfl _ rfl (p + 6) xc (by omega) (by first | rfl | omega) HC.out ?_ | refine qB ?_ | refine qC ?_); simp only [zn]; go_big_quiet_on) | (go_big_quiet_op; go_big_quiet_on)))
     refine wpQuiet_nil ?_; refine zz (by rfl) (by first | rfl | simp [Region.wanted, yielded]) ?_ ?_
     ·intro wn za hE Kx hKx
      have zf := B.size; have zg := za.size; replace B := B.trans (za.mono B.size)
      (try replace r2 := r2.below za)
      (try replace r3 := r3.below za)
      (try replace od := od.below za)
      refine zG rfl (enters_of Tryz.func91 (by kernel_rfl) rfl) (by simp only [Act.eval, qo]; rfl) ?_
      refine (vX (qw l (p + 3) 3) xb wn (by rw [yL (by omega)]; omega) HB.out).mono ?_
      rintro e wm ⟨rfl, zl⟩; refine ⟨_, rfl, ?_⟩; have hz := hKx () wm trivial zl
      dsimp only [zE] at hz
      exact hz
     rintro ⟨⟩
     dsimp only [zE]
     simp only [zn]; refine xM 7 ?_; repeat (first | go_big_quiet_skip | (go_big_quiet_want; first | ((first | refine qJ rfl l rfl _ _ rfl rfl (p) (p + 3) (by first | rfl | omega) (by first | rfl | omega) (by omega) (by omega) 3 (by omega) ?_ | refine qJ rfl l rfl _ _ rfl rfl (p + 3) (p + 6) (by first | rfl | omega) (by first | rfl | omega) (by omega) (by omega) 3 (by omega) ?_ | refine zM rfl l rfl _ rfl (p + 6) xc (by omega) (by first | rfl | omega) HC.out ?_ | refine qB ?_ | refine qC ?_); simp only [zn]; go_big_quiet_on) | (go_big_quiet_op; go_big_quiet_on)))
     refine wpQuiet_nil ?_; refine zz (by rfl) (by first | rfl | simp [Region.wanted, yielded]) ?_ ?_
     ·intro wn za hE Kx hKx
      have zf := B.size; have zg := za.size; replace B := B.trans (za.mono B.size)
      (try replace r2 := r2.below za)
      (try replace r3 := r3.below za)
      (try replace od := od.below za)
      refine Qy (E := qQ) _ rfl ⟨(xa : Int) - 1048576, (xb : Int) - 1048576, (xc : Int)⟩ rfl (by omega) ?_; intro b wm h1 h2 ht zl zm; exact hKx b wm ⟨Nat.le_trans za.size h1, ht⟩ (zl.mono h1)
     rintro b_s52
     dsimp only [zE, bsG]
     simp only [zn]; refine zY ?_; intro wn za hE; have zf := B.size; have zg := za.size; replace B := B.trans (za.mono B.size)
     (try replace r2 := r2.below za)
     (try replace r3 := r3.below za)
     (try replace od := od.below za)
     obtain ⟨hge_s52, s52⟩ : _ ∧ zJ _ _ _ _ := hE 23; clear hE; try simp only [List.drop_succ_cons, List.drop_zero]
     go_wp2_with (first | (refine xw (t := 30) rfl _ _ rfl _ 0 rfl _ _ _ rfl r3 rfl (qG B (by omega) ?_); clear r3 B; intro wn r3 ze zf zg B; (try replace r2 := r2.of_eq (ze.block _ r2.lt (by omega))); replace od := od.chg ze (by omega); simp only [zn]) | (at_builtin; refine yp rfl _ _ rfl _ _ rfl rfl od ((j9.one s52)) (by simp only [List.length_append, List.length_cons, List.length_nil]; omega) (by omega) ?_; intro v_od wn ht za; have zf := B.size; have hbz := za.size; replace B := B.trans (za.mono (by omega)); clear od; (try replace r2 := r2.of_eq (za.block _ (by omega))); (try replace r3 := r3.of_eq (za.block _ (by omega))); have od := ht; clear ht; obtain ⟨a_od, c_od, hv, hco⟩ := od.len; (try simp only [List.length_append, List.length_cons, List.length_nil, Nat.zero_add] at hv hco); subst hv; simp only [zn]) | fail)
     refine zN.normal ?_; replace r3 : zJ 30 _ b_r3 (qR (.slice a_od (P.length + 1) c_od) Z8) := r3; go_upto_region 9 with fail
     refine wp_region_lit ?_; refine zy 3 ?_; refine wpList_nil ?_; go_upto_region 7 with fail
     refine wp_region_lit ?_; refine zy 3 ?_; refine wpList_nil ?_; go_wp2; go_roundw
     case rel => exact ⟨k + 1, p + 7, _, _, P ++ [⟨(xa : Int) - 1048576, (xb : Int) - 1048576, (xc : Int)⟩], by omega, by go_num, by go_num, Lib.hid (by have := Hp.out; omega), by have := Hp.out; omega, HST, B, by omega, r2, by rw [List.length_append]; exact r3, by rw [List.length_append]; exact od⟩
     case measure => simp [intOf]; omega
    ·have q1 : decide ((k : Int) < (N : Int)) = false := decide_eq_false (by omega)
     have q2 : decide (k < N) = false := decide_eq_false hkn; have hke : k = N := by omega
     subst hke; have hpl : p + 12 ≤ l.length := by have := Hp.out; omega
     obtain ⟨na_, hna⟩ : ∃ n, beN (qw l p 2) = n := ⟨_, rfl⟩; obtain ⟨nb_, hnb⟩ : ∃ n, beN (qw l (p + 2) 2) = n := ⟨_, rfl⟩; obtain ⟨ne_, hne⟩ : ∃ n, beN (qw l (p + 9) 3) = n := ⟨_, rfl⟩; obtain ⟨g0, hg0⟩ : ∃ n, (l.getD (p + 4) 0).toNat = n := ⟨_, rfl⟩; have gb0 : g0 < 256 := by rw [← hg0]; exact (l.getD (p + 4) 0).toNat_lt
     have HG0 := Lib.hid hg0; obtain ⟨g1, hg1⟩ : ∃ n, (l.getD (p + 5) 0).toNat = n := ⟨_, rfl⟩; have gb1 : g1 < 256 := by rw [← hg1]; exact (l.getD (p + 5) 0).toNat_lt
     have HG1 := Lib.hid hg1; obtain ⟨g2, hg2⟩ : ∃ n, (l.getD (p + 6) 0).toNat = n := ⟨_, rfl⟩; have gb2 : g2 < 256 := by rw [← hg2]; exact (l.getD (p + 6) 0).toNat_lt
     have HG2 := Lib.hid hg2; obtain ⟨g3, hg3⟩ : ∃ n, (l.getD (p + 7) 0).toNat = n := ⟨_, rfl⟩; have gb3 : g3 < 256 := by rw [← hg3]; exact (l.getD (p + 7) 0).toNat_lt
     have HG3 := Lib.hid hg3; obtain ⟨g4, hg4⟩ : ∃ n, (l.getD (p + 8) 0).toNat = n := ⟨_, rfl⟩; have gb4 : g4 < 256 := by rw [← hg4]; exact (l.getD (p + 8) 0).toNat_lt
     have HG4 := Lib.hid hg4; have na2 : na_ < 16777216 := by rw [← hna]; exact vY (by omega)
     have nb2 : nb_ < 16777216 := by rw [← hnb]; exact vY (by omega)
     have ne2 : ne_ < 16777216 := by rw [← hne]; exact vY (by omega)
     have hPar : kt l = ⟨P, (na_ : Int), (nb_ : Int), ⟨(g0 : Int), (g1 : Int), (g2 : Int), (g3 : Int)⟩, decide (g4 = 1), (ne_ : Int)⟩ := by
      unfold kt; rw [HN.out]; unfold pkS Qz; have e1 : 1 + 7 * k = p := Hp.out.symm; rw [HP.out, show 3 + 7 * k = p + 2 by omega, show 9 + 7 * k = p + 8 by omega, show 10 + 7 * k = p + 9 by omega, show 5 + 7 * k + 1 = p + 5 by omega, show 5 + 7 * k + 2 = p + 6 by omega, show 5 + 7 * k + 3 = p + 7 by omega, show 5 + 7 * k = p + 4 by omega, e1, ZY (i := p + 8) (by omega), hna, hnb, hne, hg0, hg1, hg2, hg3, hg4]
     have HPAR := Lib.hid hPar; have HD := Lib.hid (show beN (qw l (9 + 7 * xV l) 1) = g4 from by
      rw [HN.out, show 9 + 7 * k = p + 8 by have := Hp.out; omega, ZY (by omega), hg4])
     have HNA := Lib.hid hna; have HNB := Lib.hid hnb; have HNE := Lib.hid hne; clear hPar hna hnb hne hg0 hg1 hg2 hg3 hg4; have qd : ((g4 : Int) == 1) = decide (g4 = 1) := by
      by_cases h : g4 = 1
      ·subst h; rfl
      ·rw [decide_eq_false h, beq_eq_false_iff_ne]; omega
     go_upto_region 6 with fail
     refine wp_region_lit ?_; refine jp 5 ?_; repeat (first | go_big_quiet_skip | (go_big_quiet_want; first | ((first | refine zM rfl l rfl _ rfl (0) k (by omega) (by first | rfl | omega) HC0.out ?_ | refine qB ?_ | refine qC ?_); simp only [zn]; go_big_quiet_on) | (go_big_quiet_op; go_big_quiet_on)))
     refine wpQuiet_nil ?_; refine wpList_nil ?_; clear q1 q2; go_upto_region 10 with fail
     refine wp_region_lit ?_; refine jp 5 ?_; repeat (first | go_big_quiet_skip | (go_big_quiet_want; first | ((first | refine qJ rfl l rfl _ _ rfl rfl (p) (p + 2) (by first | rfl | omega) (by first | rfl | omega) (by omega) (by omega) 2 (by omega) ?_ | refine qB ?_ | refine qC ?_); simp only [zn]; go_big_quiet_on) | (go_big_quiet_op; go_big_quiet_on)))
     refine wpQuiet_nil ?_; refine qT (enters_of Tryz.func91 (by kernel_rfl) rfl) (c := vX (qw l p 2) na_ _ (by rw [yL (by omega)]; omega) HNA.out) (h := ?_)
     rintro e wn ⟨rfl, za⟩; have zf := B.size; have zg := za.size; replace B := B.trans (za.mono B.size)
     (try replace r2 := r2.below za)
     (try replace r3 := r3.below za)
     (try replace od := od.below za)
     refine ⟨_, rfl, ?_⟩; simp only [zn]; refine jp 1 ?_; repeat (first | go_big_quiet_skip | (go_big_quiet_want; first | ((first | refine qJ rfl l rfl _ _ rfl rfl (p) (p + 2) (by first | rfl | omega) (by first | rfl | omega) (by omega) (by omega) 2 (by omega) ?_ | refine qB ?_ | refine qC ?_); simp only [zn]; go_big_quiet_on) | (go_big_quiet_op; go_big_quiet_on)))
     refine wpQuiet_nil ?_
     (refine jn (t := 30) rfl _ _ rfl _ 1 rfl _ rfl r3 rfl (qG B (by omega) ?_); clear r3 B; intro wn r3 ze zf zg B; replace od := od.chg ze (by omega); (try replace r2 := r2.of_eq (ze.block _ r2.lt (by omega))); simp only [zn])
     refine wpList_nil ?_; replace r3 : zJ 30 _ b_r3 (qR (.slice ad P.length cp) ⟨P, (na_ : Int), 0, Px.zero, false, 0⟩) := r3; go_upto_region 11 with fail
     refine wp_region_lit ?_; refine jp 6 ?_; repeat (first | go_big_quiet_skip | (go_big_quiet_want; first | ((first | refine qJ rfl l rfl _ _ rfl rfl (p + 2) (p + 4) (by first | rfl | omega) (by first | rfl | omega) (by omega) (by omega) 2 (by omega) ?_ | refine qB ?_ | refine qC ?_); simp only [zn]; go_big_quiet_on) | (go_big_quiet_op; go_big_quiet_on)))
     refine wpQuiet_nil ?_; refine qT (enters_of Tryz.func91 (by kernel_rfl) rfl) (c := vX (qw l (p + 2) 2) nb_ _ (by rw [yL (by omega)]; omega) HNB.out) (h := ?_)
     rintro e wn ⟨rfl, za⟩; have zf := B.size; have zg := za.size; replace B := B.trans (za.mono B.size)
     (try replace r2 := r2.below za)
     (try replace r3 := r3.below za)
     (try replace od := od.below za)
     refine ⟨_, rfl, ?_⟩; simp only [zn]; refine jp 1 ?_; repeat (first | go_big_quiet_skip | (go_big_quiet_want; first | ((first | refine qJ rfl l rfl _ _ rfl rfl (p + 2) (p + 4) (by first | rfl | omega) (by first | rfl | omega) (by omega) (by omega) 2 (by omega) ?_ | refine qB ?_ | refine qC ?_); simp only [zn]; go_big_quiet_on) | (go_big_quiet_op; go_big_quiet_on)))
     refine wpQuiet_nil ?_
     (refine jn (t := 30) rfl _ _ rfl _ 2 rfl _ rfl r3 rfl (qG B (by omega) ?_); clear r3 B; intro wn r3 ze zf zg B; replace od := od.chg ze (by omega); (try replace r2 := r2.of_eq (ze.block _ r2.lt (by omega))); simp only [zn])
     refine wpList_nil ?_; replace r3 : zJ 30 _ b_r3 (qR (.slice ad P.length cp) ⟨P, (na_ : Int), (nb_ : Int), Px.zero, false, 0⟩) := r3; go_upto_region 12 with fail
     try have lx_r2 := r2.lt
     try have lx_r3 := r3.lt
     try have lx_od := od.lt
     refine zF 18 [] (by kernel_rfl) (by kernel_rfl) (by kernel_rfl) ?_
     rotate_left 0
     simp only [jK, Nat.reduceAdd]; refine xM 18 ?_; repeat (first | go_big_quiet_skip | (go_big_quiet_want; first | ((first | refine zM rfl l rfl _ rfl (p + 4) g0 (by omega) (by first | rfl | omega) HG0.out ?_ | refine zM rfl l rfl _ rfl (p + 5) g1 (by omega) (by first | rfl | omega) HG1.out ?_ | refine zM rfl l rfl _ rfl (p + 6) g2 (by omega) (by first | rfl | omega) HG2.out ?_ | refine zM rfl l rfl _ rfl (p + 7) g3 (by omega) (by first | rfl | omega) HG3.out ?_ | refine qB ?_ | refine qC ?_); simp only [zn]; go_big_quiet_on) | (go_big_quiet_op; go_big_quiet_on)))
     refine wpQuiet_nil ?_; refine zY ?_; intro wn za hE; have zf := B.size; have zg := za.size; replace B := B.trans (za.mono B.size)
     (try replace r2 := r2.below za)
     (try replace r3 := r3.below za)
     (try replace od := od.below za)
     clear hE; try simp only [List.drop_succ_cons, List.drop_zero]
     (refine u4 rfl _ _ rfl _ rfl ⟨(g0 : Int), (g1 : Int), (g2 : Int), (g3 : Int)⟩ rfl r3 (qG B (by omega) ?_); clear r3 B; intro wn r3 ze zf zg B; replace od := od.chg ze (by omega); (try replace r2 := r2.of_eq (ze.block _ r2.lt (by omega))); simp only [zn])
     refine wpList_nil ?_; refine zN.normal ?_; replace r3 : zJ 30 _ b_r3 (qR (.slice ad P.length cp) ⟨P, (na_ : Int), (nb_ : Int), ⟨(g0 : Int), (g1 : Int), (g2 : Int), (g3 : Int)⟩, false, 0⟩) := r3; go_upto_region 13 with fail
     refine wp_region_lit ?_; refine jp 6 ?_; repeat (first | go_big_quiet_skip | (go_big_quiet_want; first | ((first | refine zM rfl l rfl _ rfl (p + 8) g4 (by omega) (by first | rfl | omega) HG4.out ?_ | refine qB ?_ | refine qC ?_); simp only [zn]; go_big_quiet_on) | (go_big_quiet_op; go_big_quiet_on)))
     refine wpQuiet_nil ?_
     (refine kD (t := 30) rfl _ _ rfl _ 7 rfl _ rfl r3 rfl (qG B (by omega) ?_); clear r3 B; intro wn r3 ze zf zg B; replace od := od.chg ze (by omega); (try replace r2 := r2.of_eq (ze.block _ r2.lt (by omega))); simp only [zn])
     refine wpList_nil ?_; replace r3 : zJ 30 _ b_r3 (qR (.slice ad P.length cp) ⟨P, (na_ : Int), (nb_ : Int), ⟨(g0 : Int), (g1 : Int), (g2 : Int), (g3 : Int)⟩, decide (g4 = 1), 0⟩) := r3; clear qd; go_upto_region 14 with fail
     refine wp_region_lit ?_; refine jp 6 ?_; repeat (first | go_big_quiet_skip | (go_big_quiet_want; first | ((first | refine qJ rfl l rfl _ _ rfl rfl (p + 9) (p + 12) (by first | rfl | omega) (by first | rfl | omega) (by omega) (by omega) 3 (by omega) ?_ | refine qB ?_ | refine qC ?_); simp only [zn]; go_big_quiet_on) | (go_big_quiet_op; go_big_quiet_on)))
     refine wpQuiet_nil ?_; refine qT (enters_of Tryz.func91 (by kernel_rfl) rfl) (c := vX (qw l (p + 9) 3) ne_ _ (by rw [yL (by omega)]; omega) HNE.out) (h := ?_)
     rintro e wn ⟨rfl, za⟩; have zf := B.size; have zg := za.size; replace B := B.trans (za.mono B.size)
     (try replace r2 := r2.below za)
     (try replace r3 := r3.below za)
     (try replace od := od.below za)
     refine ⟨_, rfl, ?_⟩; simp only [zn]; refine jp 1 ?_; repeat (first | go_big_quiet_skip | (go_big_quiet_want; first | ((first | refine qJ rfl l rfl _ _ rfl rfl (p + 9) (p + 12) (by first | rfl | omega) (by first | rfl | omega) (by omega) (by omega) 3 (by omega) ?_ | refine qB ?_ | refine qC ?_); simp only [zn]; go_big_quiet_on) | (go_big_quiet_op; go_big_quiet_on)))
     refine wpQuiet_nil ?_
     (refine jn (t := 30) rfl _ _ rfl _ 8 rfl _ rfl r3 rfl (qG B (by omega) ?_); clear r3 B; intro wn r3 ze zf zg B; replace od := od.chg ze (by omega); (try replace r2 := r2.of_eq (ze.block _ r2.lt (by omega))); simp only [zn])
     refine wpList_nil ?_; replace r3 : zJ 30 _ b_r3 (qR (.slice ad P.length cp) ⟨P, (na_ : Int), (nb_ : Int), ⟨(g0 : Int), (g1 : Int), (g2 : Int), (g3 : Int)⟩, decide (g4 = 1), (ne_ : Int)⟩) := r3; obtain ⟨s1, hs1⟩ : ∃ s : qS, s = ⟨P, (na_ : Int), (nb_ : Int), ⟨(g0 : Int), (g1 : Int), (g2 : Int), (g3 : Int)⟩, decide (g4 = 1), (ne_ : Int)⟩ := ⟨_, rfl⟩; replace r3 : zJ 30 wn b_r3 (qR (.slice ad P.length cp) s1) := by rw [hs1]; exact r3
     have hsp : s1.pts = P := by rw [hs1]
     rw [← hs1] at HPAR; have rsP : j9 qQ (.slice ad P.length cp) s1.pts wn := by rw [hsp]; exact od.rs
     have hsn : s1.pts.length ≤ 17592186044416 := by rw [hsp]; omega
     obtain ⟨vb, hvb⟩ : ∃ b, ju s1 = b := ⟨_, rfl⟩; have HVB := Lib.hid hvb; clear hs1 hvb; go_upto_region 15 with fail
     refine wp_region_lit ?_; refine zy 1 ?_
     refine qT (enters_of Tryz.func17 (by kernel_rfl) rfl) (c := u9 _ s1 vb _ rsP hsn HVB.out) (h := ?_); rintro e wn ⟨rfl, za⟩; have zf := B.size; have zg := za.size; replace B := B.trans (za.mono B.size)
     (try replace r2 := r2.below za)
     (try replace r3 := r3.below za)
     (try replace rsP := rsP.below za)
     (try replace od := od.below za)
     refine ⟨_, rfl, ?_⟩; simp only [zn]; refine zy 1 ?_; refine wpList_nil ?_; clear rsP; have HSP := Lib.hid hsp; clear hsp; have hpl2 : ¬ l.length < 13 + 7 * xV l := by rw [HN.out]; exact hsh
     have HIFF := Lib.hid (zcu (l := l) (by omega)); clear hpl2; go_upto_region 16 with fail
     cases vb with
     | false =>
      have hS := HE.out; rw [wP (by rw [HN.out]; exact hsh) (fun h => by have h2 := HIFF.out.1 h; rw [HPAR.out, HVB.out, HD.out] at h2; cases h2.1)] at hS
      injection hS with e1 e2
      subst e1 e2; clear HE HIFF; refine wp_region_lit ?_; refine zy 11 ?_; refine qF ?hs21_11 ?_
      case hs21_11 => kernel_rfl
      simp only [zn]; refine zy 4 ?_; refine wpList_nil ?_; go_upto_region 17 with fail
      refine wp_region_lit ?_
      (refine zV rfl (.agg (J5 (.slice none 0 0) Z8 11)) (by first | rfl | kernel_rfl | simp [go_sem, Act.eval]) ?_; simp only [zn])
      (refine zq (t := 78) rfl _ _ rfl _ rfl _ rfl r2 (by kernel_rfl) rfl (by simp [qR, J5, Value.oneCell']) (qG B (by omega) ?_); clear r2 B; intro wn r2 ze zf zg B; (try replace r3 := r3.of_eq (ze.block _ r3.lt (by omega))); simp only [zn])
      refine wpList_nil ?_; first | (refine bodyPost_ret (zv (t := 78) rfl _ _ (b_r2) rfl r2 Tryz.isAgg78 (by kernel_rfl)) rfl ?_) | (go_step; refine bodyPost_ret (zv (t := 78) rfl _ _ (b_r2) rfl r2 Tryz.isAgg78 (by kernel_rfl)) rfl ?_) | (go_step; go_step; refine bodyPost_ret (zv (t := 78) rfl _ _ (b_r2) rfl r2 Tryz.isAgg78 (by kernel_rfl)) rfl ?_) | (go_step; go_step; go_step; refine bodyPost_ret (zv (t := 78) rfl _ _ (b_r2) rfl r2 Tryz.isAgg78 (by kernel_rfl)) rfl ?_) | (go_step; go_step; go_step; go_step; refine bodyPost_ret (zv (t := 78) rfl _ _ (b_r2) rfl r2 Tryz.isAgg78 (by kernel_rfl)) rfl ?_) | (go_step; go_step; go_step; go_step; go_step; refine bodyPost_ret (zv (t := 78) rfl _ _ (b_r2) rfl r2 Tryz.isAgg78 (by kernel_rfl)) rfl ?_)
      exact ⟨.slice none 0 0, rfl, (qE.nil (E := qQ) 0 _).rs, B⟩
     | true =>
      by_cases hd : g4 ≤ 1
      ·have z1 : decide ((g4 : Int) > 1) = false := decide_eq_false (by omega)
       have z2 : decide (1 < (g4 : Int)) = false := decide_eq_false (by omega); have z3 : decide (1 < g4) = false := decide_eq_false (by omega); by_cases zb : l.length = p + 12
       ·have y1 : ((l.length : Int) != (p : Int) + 12) = false := by simp; omega
        have hS := HE.out; rw [Wf (by rw [HN.out]; exact hsh) (HIFF.out.2 ⟨by rw [HPAR.out]; exact HVB.out, by rw [HD.out]; exact hd, by rw [HN.out]; have := Hp.out; omega⟩), HPAR.out] at hS
        injection hS with e1 e2
        subst e1 e2; clear HE HIFF; refine wp_region_lit ?_; refine jp 11 ?_; repeat (first | go_big_quiet_skip | (go_big_quiet_want; first | ((first | refine zM rfl l rfl _ rfl (p + 8) g4 (by omega) (by first | rfl | omega) HG4.out ?_ | refine qB ?_ | refine qC ?_); simp only [zn]; go_big_quiet_on) | (go_big_quiet_op; go_big_quiet_on)))
        refine wpQuiet_nil ?_; refine jE (by first | rfl | simp [Region.wanted, yielded]) rfl Tryz.underlying9 _ rfl ?_; simp only [zn]; refine jp 4 ?_; repeat (first | go_big_quiet_skip | (go_big_quiet_want; first | ((first | refine zM rfl l rfl _ rfl (p + 8) g4 (by omega) (by first | rfl | omega) HG4.out ?_ | refine qB ?_ | refine qC ?_); simp only [zn]; go_big_quiet_on) | (go_big_quiet_op; go_big_quiet_on)))
        refine wpQuiet_nil ?_; refine wpList_nil ?_; have HODP := Lib.hid od; go_upto_region 18 with fail
        refine wp_region_lit ?_; refine zy 1 ?_
        (refine zV rfl (.agg (J5 (.slice ad P.length cp) s1 0)) (by first | rfl | kernel_rfl | simp [go_sem, Act.eval]) ?_; simp only [zn])
        (refine zq (t := 78) rfl _ _ rfl _ rfl _ rfl r2 (by kernel_rfl) rfl (by simp [qR, J5, Value.oneCell']) (qG B (by omega) ?_); clear r2 B; intro wn r2 ze zf zg B; have rsP : j9 qQ (.slice ad P.length cp) s1.pts wn := (by rw [HSP.out]; exact (qE.chg HODP.out ze (by omega)).rs); simp only [zn])
        refine wpList_nil ?_; first | (refine bodyPost_ret (zv (t := 78) rfl _ _ (b_r2) rfl r2 Tryz.isAgg78 (by kernel_rfl)) rfl ?_) | (go_step; refine bodyPost_ret (zv (t := 78) rfl _ _ (b_r2) rfl r2 Tryz.isAgg78 (by kernel_rfl)) rfl ?_) | (go_step; go_step; refine bodyPost_ret (zv (t := 78) rfl _ _ (b_r2) rfl r2 Tryz.isAgg78 (by kernel_rfl)) rfl ?_) | (go_step; go_step; go_step; refine bodyPost_ret (zv (t := 78) rfl _ _ (b_r2) rfl r2 Tryz.isAgg78 (by kernel_rfl)) rfl ?_) | (go_step; go_step; go_step; go_step; refine bodyPost_ret (zv (t := 78) rfl _ _ (b_r2) rfl r2 Tryz.isAgg78 (by kernel_rfl)) rfl ?_) | (go_step; go_step; go_step; go_step; go_step; refine bodyPost_ret (zv (t := 78) rfl _ _ (b_r2) rfl r2 Tryz.isAgg78 (by kernel_rfl)) rfl ?_)
        exact ⟨_, rfl, rsP, B⟩
       ·have y1 : ((l.length : Int) != (p : Int) + 12) = true := by simp; omega
        have hS := HE.out; rw [wP (by rw [HN.out]; exact hsh) (fun h => by have h2 := HIFF.out.1 h; rw [HPAR.out, HVB.out, HD.out] at h2; rw [HN.out] at h2; have := Hp.out; omega)] at hS
        injection hS with e1 e2
        subst e1 e2; clear HE HIFF; refine wp_region_lit ?_; refine jp 11 ?_; repeat (first | go_big_quiet_skip | (go_big_quiet_want; first | ((first | refine zM rfl l rfl _ rfl (p + 8) g4 (by omega) (by first | rfl | omega) HG4.out ?_ | refine qB ?_ | refine qC ?_); simp only [zn]; go_big_quiet_on) | (go_big_quiet_op; go_big_quiet_on)))
        refine wpQuiet_nil ?_; refine jE (by first | rfl | simp [Region.wanted, yielded]) rfl Tryz.underlying9 _ rfl ?_; simp only [zn]; refine jp 4 ?_; repeat (first | go_big_quiet_skip | (go_big_quiet_want; first | ((first | refine zM rfl l rfl _ rfl (p + 8) g4 (by omega) (by first | rfl | omega) HG4.out ?_ | refine qB ?_ | refine qC ?_); simp only [zn]; go_big_quiet_on) | (go_big_quiet_op; go_big_quiet_on)))
        refine wpQuiet_nil ?_; refine wpList_nil ?_; go_upto_region 17 with fail
        refine wp_region_lit ?_
        (refine zV rfl (.agg (J5 (.slice none 0 0) Z8 11)) (by first | rfl | kernel_rfl | simp [go_sem, Act.eval]) ?_; simp only [zn])
        (refine zq (t := 78) rfl _ _ rfl _ rfl _ rfl r2 (by kernel_rfl) rfl (by simp [qR, J5, Value.oneCell']) (qG B (by omega) ?_); clear r2 B; intro wn r2 ze zf zg B; simp only [zn])
        refine wpList_nil ?_; first | (refine bodyPost_ret (zv (t := 78) rfl _ _ (b_r2) rfl r2 Tryz.isAgg78 (by kernel_rfl)) rfl ?_) | (go_step; refine bodyPost_ret (zv (t := 78) rfl _ _ (b_r2) rfl r2 Tryz.isAgg78 (by kernel_rfl)) rfl ?_) | (go_step; go_step; refine bodyPost_ret (zv (t := 78) rfl _ _ (b_r2) rfl r2 Tryz.isAgg78 (by kernel_rfl)) rfl ?_) | (go_step; go_step; go_step; refine bodyPost_ret (zv (t := 78) rfl _ _ (b_r2) rfl r2 Tryz.isAgg78 (by kernel_rfl)) rfl ?_) | (go_step; go_step; go_step; go_step; refine bodyPost_ret (zv (t := 78) rfl _ _ (b_r2) rfl r2 Tryz.isAgg78 (by kernel_rfl)) rfl ?_) | (go_step; go_step; go_step; go_step; go_step; refine bodyPost_ret (zv (t := 78) rfl _ _ (b_r2) rfl r2 Tryz.isAgg78 (by kernel_rfl)) rfl ?_)
        exact ⟨.slice none 0 0, rfl, (qE.nil (E := qQ) 0 _).rs, B⟩
      ·have z1 : decide ((g4 : Int) > 1) = true := decide_eq_true (by omega)
       have z2 : decide (1 < (g4 : Int)) = true := decide_eq_true (by omega); have z3 : decide (1 < g4) = true := decide_eq_true (by omega); have hS := HE.out; rw [wP (by rw [HN.out]; exact hsh) (fun h => by have h2 := HIFF.out.1 h; rw [HPAR.out, HVB.out, HD.out] at h2; omega)] at hS
       injection hS with e1 e2
       subst e1 e2; clear HE HIFF; refine wp_region_lit ?_; refine jp 11 ?_; repeat (first | go_big_quiet_skip | (go_big_quiet_want; first | ((first | refine zM rfl l rfl _ rfl (p + 8) g4 (by omega) (by first | rfl | omega) HG4.out ?_ | refine qB ?_ | refine qC ?_); simp only [zn]; go_big_quiet_on) | (go_big_quiet_op; go_big_quiet_on)))
       refine wpQuiet_nil ?_; refine qF ?hs27_11 ?_
       case hs27_11 => kernel_rfl
       simp only [zn]; refine jp 4 ?_; repeat (first | go_big_quiet_skip | (go_big_quiet_want; first | ((first | refine zM rfl l rfl _ rfl (p + 8) g4 (by omega) (by first | rfl | omega) HG4.out ?_ | refine qB ?_ | refine qC ?_); simp only [zn]; go_big_quiet_on) | (go_big_quiet_op; go_big_quiet_on)))
       refine wpQuiet_nil ?_; refine wpList_nil ?_; go_upto_region 17 with fail
       refine wp_region_lit ?_
       (refine zV rfl (.agg (J5 (.slice none 0 0) Z8 11)) (by first | rfl | kernel_rfl | simp [go_sem, Act.eval]) ?_; simp only [zn])
       (refine zq (t := 78) rfl _ _ rfl _ rfl _ rfl r2 (by kernel_rfl) rfl (by simp [qR, J5, Value.oneCell']) (qG B (by omega) ?_); clear r2 B; intro wn r2 ze zf zg B; simp only [zn])
       refine wpList_nil ?_; first | (refine bodyPost_ret (zv (t := 78) rfl _ _ (b_r2) rfl r2 Tryz.isAgg78 (by kernel_rfl)) rfl ?_) | (go_step; refine bodyPost_ret (zv (t := 78) rfl _ _ (b_r2) rfl r2 Tryz.isAgg78 (by kernel_rfl)) rfl ?_) | (go_step; go_step; refine bodyPost_ret (zv (t := 78) rfl _ _ (b_r2) rfl r2 Tryz.isAgg78 (by kernel_rfl)) rfl ?_) | (go_step; go_step; go_step; refine bodyPost_ret (zv (t := 78) rfl _ _ (b_r2) rfl r2 Tryz.isAgg78 (by kernel_rfl)) rfl ?_) | (go_step; go_step; go_step; go_step; refine bodyPost_ret (zv (t := 78) rfl _ _ (b_r2) rfl r2 Tryz.isAgg78 (by kernel_rfl)) rfl ?_) | (go_step; go_step; go_step; go_step; go_step; refine bodyPost_ret (zv (t := 78) rfl _ _ (b_r2) rfl r2 Tryz.isAgg78 (by kernel_rfl)) rfl ?_)
       exact ⟨.slice none 0 0, rfl, (qE.nil (E := qQ) 0 _).rs, B⟩
/- Bits for StrokeBytes: what Read hands back, strings cut, bytes turned, four strings in a row. -/
theorem zd4 (l : List UInt8) : xV l < 256 := by
 have := vh (qw l 0 1)
 unfold xV
 exact Nat.lt_of_lt_of_le this (by rw [show (256 : Nat) = 256 ^ 1 from rfl]; exact Nat.pow_le_pow_right (by omega) (by unfold qw; rw [List.length_take]; omega))
theorem KY {l : List UInt8} {S : qS} {E : Int} (e : xQ l = (S, E)) : S.pts.length ≤ 255 ∧ S.col.ok ∧ (E = 0 ∨ E = 10 ∨ E = 11) := by
 have hp := zd4 l
 have hz : Z8.col.ok := by unfold Px.ok Z8 Px.zero; simp
 unfold xQ at e
 split at e
 ·cases e; exact ⟨by show 0 ≤ 255; omega, hz, .inr (.inl rfl)⟩
 ·split at e
  ·cases e; exact ⟨by rw [Yy]; omega, V8 l _, .inl rfl⟩
  ·cases e; exact ⟨by show 0 ≤ 255; omega, hz, .inr (.inr rfl)⟩
theorem Xz (l : List UInt8) (j : Nat) (hj : j ≤ l.length) (w : World) : (Instr.sliceAt 9 (.string (jk l)) none (some (.int .i64 (j : Int))) none).run Tryz.prog w = .ok (.string (jk (qw l 0 j))) w := by
 have hs := qm l
 have e := V0 l 0 j
 rw [Nat.sub_zero] at e
 rw [← e]
 simp [go_sem, Instr.sliceAt, Instr.slice, Instr.sliceBounds, Instr.sliceBound, hs, hj]
theorem QF {o : Oper} {a : Act} {C : World → Prop} {K : Act → Prop} {x q : Operand} (h : o.op = .slice 9 x none (some q) none) (l : List UInt8) (hx : a.eval x = .string (jk l)) (zj : Int) (hq : a.eval q = .int .i64 zj) (j : Nat) (hj : zj = j) (hjl : j ≤ l.length) (hk : K (a.put o.dst (.string (jk (qw l 0 j))))) : o.quiet Tryz.prog a C K := by
 subst hj
 exact ⟨_, fun w hw => by unfold Oper.quietAt execOp; simp only [h, hx, hq, Option.map_some, Option.map_none, Xz l j hjl w, Sem.run_bind, Sem.run_pure, Result.andThen_ok]; exact ⟨rfl, rfl⟩, hk⟩
theorem Wn (l : List UInt8) (i m : Nat) : (qw l i m).length ≤ m := by unfold qw; rw [List.length_take]; omega
/-- What a byte's xor is: a byte. -/
theorem zfA (a b : Int) : ∃ c : UInt8, bits .xor .u8 a b = (c.toNat : Int) := by
 have e : bits .xor .u8 a b = IntKind.u8.wrap ((BitVec.ofInt 8 a ^^^ BitVec.ofInt 8 b).toNat : Int) := rfl
 have zh := (BitVec.ofInt 8 a ^^^ BitVec.ofInt 8 b).isLt
 refine ⟨UInt8.ofNat (BitVec.ofInt 8 a ^^^ BitVec.ofInt 8 b).toNat, ?_⟩
 rw [e]
 generalize (BitVec.ofInt 8 a ^^^ BitVec.ofInt 8 b).toNat = n at zh ⊢
 have h1 : (UInt8.ofNat n).toNat = n := by rw [UInt8.toNat_ofNat']; exact Nat.mod_eq_of_lt zh
 rw [h1]
 have : n < 256 := zh
 simp only [IntKind.wrap]
 first | omega | (simp [IntKind.bits, IntKind.signed]; omega)
/-- A byte stored into a row of bytes. -/
theorem Kd {ops : Array Oper} {rest : List Oper} {o : Oper} {a : Act} {w : World} {Q : Exit → Act → World → Prop} (hg : o.guard = none) (x y : Operand) (ho : o.op = .store 5 x y) (b p j : Nat) (hx : a.eval x = .pointer (some ⟨b, j, none⟩)) (z : Int) (hy : a.eval y = .int .u8 z) {l : List UInt8} (h : ZP w b l) (hp : p < l.length) (hj : j = p) (c : UInt8) (hz : z = (c.toNat : Int))
  (hk : ∀ w', ZP w' b (l.set p c) → qV b w w' → w'.heap.size = w.heap.size → wpList Tryz.prog ops Q rest (a.put o.dst undef) w') : wpList Tryz.prog ops Q (o :: rest) a w := by
 subst hj
 subst hz
 obtain ⟨h1, h2⟩ := h.2 j hp
 refine z8 hg x y ho (w.setCell ⟨b, j, none⟩ (.int .u8 (c.toNat : Int))) ?_ (hk _ (h.set hp c) ((qV.refl b w).setCell _) (by simp only [World.size_setCell]))
 rw [hx, hy]
 simp [go_sem, h1, h2]
section
variable {t : TypeId} {w : World} {b : Nat} {v : Value} {s : qS} {n : Int}
theorem WR (h : zJ t w b (J5 v s n)) : (Instr.loadAt 30 (.pointer (some ⟨b, 0, none⟩))).run Tryz.prog w = .ok (.agg (qR v s)) w :=
 kB h 0 Tryz.isAgg30 (by kernel_rfl) (fun j hj => by
  have hj : j < 9 := hj
  match j, hj with
  | 0, _ => rfl
  | 1, _ => rfl
  | 2, _ => rfl
  | 3, _ => rfl
  | 4, _ => rfl
  | 5, _ => rfl
  | 6, _ => rfl
  | 7, _ => rfl
  | 8, _ => rfl)
theorem ze4 (h : zJ t w b (J5 v s n)) : (Instr.loadAt 53 (.pointer (some ⟨b, 9, none⟩))).run Tryz.prog w = .ok (.int .i64 n) w := Xx (h.cell 9 rfl)
end
theorem Xs (w : World) (o : Oper) (ho : o.op = .alloc 76) (ev : Operand → Value) : (execOp ev o).run Tryz.prog w = .ok (.value (.pointer (some ⟨w.heap.size, 0, none⟩))) (w.alloc (.cells #[.string ⟨#[]⟩, .string ⟨#[]⟩, .string ⟨#[]⟩, .string ⟨#[]⟩] 76)) := by
 obtain ⟨d, p, t, ps, af, gd⟩ := o
 simp only at ho
 subst ho
 kernel_rfl
theorem KL (L : List Int) : jh (qI L) = qL (qI L) := by unfold jh; rw [if_pos (KM L)]
theorem W6 (L : List Int) : 20 ≤ (jh (qI L)).length ∧ (jh (qI L)).length ≤ 100 := by
 rw [KL, vi, yH]
 have := wd L
 omega
theorem W7 (L : List Int) : xQ (jh (qI L)) = (qI L, 0) := QI (VW L) (Xg L)
theorem Vm (l : List UInt8) (S : qS) (E : Int) (w : World) (hl : l.length ≤ 100000000) (e : xQ l = (S, E)) : Calls Tryz.prog 34 #[.string (jk l)] w fun e w' => ∃ a n c, e = .returned (.tuple #[.agg (qR (.slice a n c) S), .int .i64 E]) ∧ j9 qQ (.slice a n c) S.pts w' ∧ Below w.heap.size w w' :=
 (JQ l S E w hl e).mono fun e w' ⟨v, h1, h2, h3⟩ => by
  obtain ⟨a, c, rfl, _⟩ := h2.len; exact ⟨_, _, _, h1, h2, h3⟩
theorem zdk (l : List UInt8) (S : qS) (E : Int) (w : World) (hl : l.length ≤ 100000000) (e : xQ l = (S, E)) : Calls Tryz.prog 36 #[.string (jk l)] w fun e w' => ∃ a n c, e = .returned (.agg (J5 (.slice a n c) S E)) ∧ j9 qQ (.slice a n c) S.pts w' ∧ Below w.heap.size w w' :=
 (zdl l S E w hl e).mono fun e w' ⟨v, h1, h2, h3⟩ => by
  obtain ⟨a, c, rfl, _⟩ := h2.len; exact ⟨_, _, _, h1, h2, h3⟩
theorem yh {o : Oper} {a : Act} {C : World → Prop} {K : Act → Prop} {x q : Operand} (h : o.op = .slice 9 x none (some q) none) (l : List UInt8) (hx : a.eval x = .string (jk l)) (zj : Int) (hq : a.eval q = .int .i64 zj) (j : Nat) (hj : zj = j) (hjl : j ≤ l.length) (A : List UInt8) (hA : qw l 0 j = A) (hk : K (a.put o.dst (.string (jk A)))) : o.quiet Tryz.prog a C K :=
 QF h l hx zj hq j hj hjl (hA ▸ hk)
theorem zK {w : World} {b j : Nat} {x : ByteArray} (h : w.cell? ⟨b, j, none⟩ = some (.string x)) : (Instr.loadAt 9 (.pointer (some ⟨b, j, none⟩))).run Tryz.prog w = .ok (.string x) w := by simp [go_sem, h]
set_option maxHeartbeats 8000000 in
theorem Zl (vL : Value) (L : List Int) (how val : Int) (s : ByteArray) (x y z : Int) (hs : s.size ≤ maxLen) (w : World) (lm : xG w) (hL : j9 inE vL L w) (hLn : L.length ≤ 17592186044416) : Calls Tryz.prog 8 #[.agg #[vL, .int .i64 how, .int .i64 val], .string s, .agg #[.int .i64 x, .int .i64 y, .int .i64 z]] w fun e w' => e = .returned (.bool true) ∧ Below w.heap.size w w' := by
 have B := Below.refl w.heap.size w
 obtain ⟨l, rfl⟩ : ∃ l, s = jk l := ⟨bytes s, rfl⟩
 rw [qm] at hs
 obtain ⟨A, hA⟩ : ∃ A, qw l 0 (min l.length 100) = A := ⟨_, rfl⟩
 have AL : A.length ≤ 100 := by rw [← hA]; exact Nat.le_trans (Wn _ _ _) (by omega)
 have HA := Lib.hid hA
 clear hA
 obtain ⟨aL, cL, rfl, hcL⟩ := hL.len
 have OF := Lib.hid (fun w' (h : Below w.heap.size w w') => zc0 _ L how val _ w' (hL.below h) hLn rfl)
 have M1 := Lib.hid (fun w' (h : Below w.heap.size w w') => Jc _ L w' (hL.below h) hLn)
 have SN := Lib.hid (show (ofS L how val).pts.length ≤ 17592186044416 from Nat.le_trans (zd1 L how val) (by omega))
 have SC := Lib.hid (zd0 L how val)
 have TC := Lib.hid (Xg L)
 have TN := Lib.hid (show (qI L).pts.length ≤ 1000000 from by rw [yH]; have := wd L; omega)
 have BL := W6 L
 have RD := W7 L
 obtain ⟨S, hS⟩ : ∃ S, ofS L how val = S := ⟨_, rfl⟩
 obtain ⟨T, hT⟩ : ∃ T, qI L = T := ⟨_, rfl⟩
 rw [hS] at OF SN SC
 rw [hT] at M1 TN TC BL RD
 clear hS hT hL
 obtain ⟨Bs, hBs⟩ : ∃ x, jh S = x := ⟨_, rfl⟩
 obtain ⟨Bt, hBt⟩ : ∃ x, jh T = x := ⟨_, rfl⟩
 rw [hBt] at BL RD
 have HBs := Lib.hid hBs
 have HBt := Lib.hid hBt
 have HRD := Lib.hid RD
 have TN2 := Lib.hid (show T.pts.length ≤ 17592186044416 from Nat.le_trans TN.out (by omega))
 clear hBs hBt RD
 obtain ⟨V, hV, V1, V2⟩ := Jn x
 obtain ⟨Z, hZ, Z1, Z2⟩ := Jn z
 go_enter Tryz.func8, Tryz.ntmps8
 go_upto_region 0 with fail
 refine wp_region_lit ?_
 try simp only [zP]
 (refine zt (t := 24) rfl _ rfl _ rfl (z6 B ?_); clear B; intro b_r3 wn zb zd r3 za zf zk B; (try have zh := lm.lt); (try replace lm := lm.below (za.mono zb)); simp only [zn])
 (refine zt (t := 71) rfl _ rfl _ rfl (z6 B ?_); clear B; intro b_r5 wn zb zd r5 za zf zk B; (try have zh := lm.lt); (try replace lm := lm.below (za.mono zb)); (try have zh := r3.lt); (try replace r3 := r3.below (za.mono zb)); simp only [zn])
 refine zy 1 ?_
 refine wpList_nil ?_
 go_upto_region 1 with fail
 refine wp_region_lit ?_
 try simp only [zP]
 refine qT (enters_of Tryz.func13 (by kernel_rfl) rfl) (c := zcE _ lm) (h := ?_)
 rintro e wn ⟨rfl, za⟩
 have zf := B.size
 have zg := za.size
 replace B := B.trans (za.mono B.size)
 (try replace lm := lm.below za)
 (try replace r3 := r3.below za)
 (try replace r5 := r5.below za)
 refine ⟨_, rfl, ?_⟩
 simp only [zn]
 refine zy 1 ?_
 refine wpList_nil ?_
 clear lm
 go_upto_region 2 with fail
 refine wp_region_lit ?_
 try simp only [zP]
 refine jp 2 ?_
 repeat (first | go_big_quiet_skip | (go_big_quiet_want; first | ((first | refine yh rfl l rfl _ rfl (min l.length 100) (by first | rfl | omega) (by omega) A HA.out ?_ | refine qB ?_ | refine qC ?_); simp only [zn]; go_big_quiet_on) | (go_big_quiet_op; go_big_quiet_on)))
 refine wpQuiet_nil ?_
 refine jE (by first | rfl | simp [Region.wanted, yielded]) rfl Tryz.underlying9 _ rfl ?_
 simp only [zn]
 refine Kb (by first | rfl | simp [Region.wanted, yielded]) rfl rfl Tryz.underlying3 rfl rfl ?_
 simp only [zn]
 refine jp 2 ?_
 repeat (first | go_big_quiet_skip | (go_big_quiet_want; first | ((first | refine yh rfl l rfl _ rfl (min l.length 100) (by first | rfl | omega) (by omega) A HA.out ?_ | refine qB ?_ | refine qC ?_); simp only [zn]; go_big_quiet_on) | (go_big_quiet_op; go_big_quiet_on)))
 refine wpQuiet_nil ?_
 refine wpList_nil ?_
 clear HA hs
 go_upto_region 3 with fail
 refine wp_region_lit ?_
 try simp only [zP]
 refine zy 1 ?_
 refine qT (enters_of Tryz.func14 (by kernel_rfl) rfl) (c := OF.out _ B) (h := ?_)
 rintro e wn ⟨a2, c2, rfl, rs, za⟩
 have zf := B.size
 have zg := za.size
 replace B := B.trans (za.mono B.size)
 (try replace r3 := r3.below za)
 (try replace r5 := r5.below za)
 refine ⟨_, rfl, ?_⟩
 simp only [zn]
 obtain ⟨wK, hK⟩ : ∃ z, z = wn := ⟨_, rfl⟩
 subst hK
 have BG := B
 have hwsK := BG.size
 have B := Below.refl wK.heap.size wK
 have H_r3 := Lib.hid r3
 have H_r5 := Lib.hid r5
 have H_rs := Lib.hid rs
 try simp only [zP]
 (refine zu (t := 30) rfl _ (zW _ _ rfl) (z6 B ?_); clear B; intro b_r8 wn zb zd r8 za zf zk B; simp only [zn])
 (refine zq (t := 30) rfl _ _ rfl _ rfl _ rfl r8 (by kernel_rfl) rfl (by simp [qR, Value.oneCell']) (qG B (by omega) ?_); clear r8 B; intro wn r8 ze zf zg B; simp only [zn])
 refine wpList_nil ?_
 clear r3
 clear r5
 clear rs
 have r3 := by first | exact H_r3.out.below B | exact H_r3.out.of_eq (B.block _ H_r3.out.lt)
 have r5 := by first | exact H_r5.out.below B | exact H_r5.out.of_eq (B.block _ H_r5.out.lt)
 have rs := by first | exact H_rs.out.below B | exact H_rs.out.of_eq (B.block _ H_rs.out.lt)
 clear H_r3
 clear H_r5
 clear H_rs
 have B0 := BG.trans (B.mono hwsK)
 clear B BG hwsK
 have B := B0
 clear B0
 go_upto_region 4 with fail
 refine wp_region_lit ?_
 try simp only [zP]
 refine zy 2 ?_
 refine qT (enters_of Tryz.func15 (by kernel_rfl) rfl) (c := M1.out _ B) (h := ?_)
 rintro e wn ⟨a3, c3, rfl, od, za⟩
 have zf := B.size
 have zg := za.size
 replace B := B.trans (za.mono B.size)
 (try replace r3 := r3.below za)
 (try replace r5 := r5.below za)
 (try replace rs := rs.below za)
 (try replace r8 := r8.below za)
 have ts := od.rs
 clear od
 refine ⟨_, rfl, ?_⟩
 simp only [zn]
 obtain ⟨wK, hK⟩ : ∃ z, z = wn := ⟨_, rfl⟩
 subst hK
 have BG := B
 have hwsK := BG.size
 have B := Below.refl wK.heap.size wK
 have H_r3 := Lib.hid r3
 have H_r5 := Lib.hid r5
 have H_rs := Lib.hid rs
 have H_r8 := Lib.hid r8
 have H_ts := Lib.hid ts
 try simp only [zP]
 (refine zu (t := 30) rfl _ (zW _ _ rfl) (z6 B ?_); clear B; intro b_r9 wn zb zd r9 za zf zk B; simp only [zn])
 (refine zq (t := 30) rfl _ _ rfl _ rfl _ rfl r9 (by kernel_rfl) rfl (by simp [qR, Value.oneCell']) (qG B (by omega) ?_); clear r9 B; intro wn r9 ze zf zg B; simp only [zn])
 refine wpList_nil ?_
 clear r3
 clear r5
 clear rs
 clear r8
 clear ts
 have r3 := by first | exact H_r3.out.below B | exact H_r3.out.of_eq (B.block _ H_r3.out.lt)
 have r5 := by first | exact H_r5.out.below B | exact H_r5.out.of_eq (B.block _ H_r5.out.lt)
 have rs := by first | exact H_rs.out.below B | exact H_rs.out.of_eq (B.block _ H_rs.out.lt)
 have r8 := by first | exact H_r8.out.below B | exact H_r8.out.of_eq (B.block _ H_r8.out.lt)
 have ts := by first | exact H_ts.out.below B | exact H_ts.out.of_eq (B.block _ H_ts.out.lt)
 clear H_r3
 clear H_r5
 clear H_rs
 clear H_r8
 clear H_ts
 have B0 := BG.trans (B.mono hwsK)
 clear B BG hwsK
 have B := B0
 clear B0
 clear OF M1 r3
 go_upto_region 5 with fail
 refine wp_region_lit ?_
 try simp only [zP]
 refine zy 1 ?_
 refine qT (enters_of Tryz.func33 (by kernel_rfl) rfl) (c := kI _ T Bt _ ts TN2.out TC.out HBt.out) (h := ?_)
 rintro e wn ⟨rfl, za⟩
 have zf := B.size
 have zg := za.size
 replace B := B.trans (za.mono B.size)
 (try replace r5 := r5.below za)
 (try replace rs := rs.below za)
 (try replace r8 := r8.below za)
 (try replace ts := ts.below za)
 (try replace r9 := r9.below za)
 refine ⟨_, rfl, ?_⟩
 simp only [zn]
 refine zy 1 ?_
 refine wpList_nil ?_
 go_upto_region 6 with fail
 refine wp_region_lit ?_
 try simp only [zP]
 refine zy 1 ?_
 refine qT (enters_of Tryz.func34 (by kernel_rfl) rfl) (c := Vm Bt T 0 _ (by omega) HRD.out) (h := ?_)
 rintro e wn ⟨a4, n4, c4, rfl, us, za⟩
 have zf := B.size
 have zg := za.size
 replace B := B.trans (za.mono B.size)
 (try replace r5 := r5.below za)
 (try replace rs := rs.below za)
 (try replace r8 := r8.below za)
 (try replace ts := ts.below za)
 (try replace r9 := r9.below za)
 refine ⟨_, rfl, ?_⟩
 simp only [zn]
 refine zy 3 ?_
 obtain ⟨wK, hK⟩ : ∃ z, z = wn := ⟨_, rfl⟩
 subst hK
 have BG := B
 have hwsK := BG.size
 have B := Below.refl wK.heap.size wK
 have H_r5 := Lib.hid r5
 have H_rs := Lib.hid rs
 have H_r8 := Lib.hid r8
 have H_ts := Lib.hid ts
 have H_r9 := Lib.hid r9
 have H_us := Lib.hid us
 try simp only [zP]
 (refine zu (t := 30) rfl _ (zW _ _ rfl) (z6 B ?_); clear B; intro b_r11 wn zb zd r11 za zf zk B; simp only [zn])
 (refine zq (t := 30) rfl _ _ rfl _ rfl _ rfl r11 (by kernel_rfl) rfl (by simp [qR, Value.oneCell']) (qG B (by omega) ?_); clear r11 B; intro wn r11 ze zf zg B; simp only [zn])
 refine zy 1 ?_
 refine wpList_nil ?_
 clear r5
 clear rs
 clear r8
 clear ts
 clear r9
 clear us
 have r5 := by first | exact H_r5.out.below B | exact H_r5.out.of_eq (B.block _ H_r5.out.lt)
 have rs := by first | exact H_rs.out.below B | exact H_rs.out.of_eq (B.block _ H_rs.out.lt)
 have r8 := by first | exact H_r8.out.below B | exact H_r8.out.of_eq (B.block _ H_r8.out.lt)
 have ts := by first | exact H_ts.out.below B | exact H_ts.out.of_eq (B.block _ H_ts.out.lt)
 have r9 := by first | exact H_r9.out.below B | exact H_r9.out.of_eq (B.block _ H_r9.out.lt)
 have us := by first | exact H_us.out.below B | exact H_us.out.of_eq (B.block _ H_us.out.lt)
 clear H_r5
 clear H_rs
 clear H_r8
 clear H_ts
 clear H_r9
 clear H_us
 have B0 := BG.trans (B.mono hwsK)
 clear B BG hwsK
 have B := B0
 clear B0
 go_upto_region 7 with fail
 try simp only [zP]
 try have lx_r5 := r5.lt
 try have lx_rs := rs.lt
 try have lx_r8 := r8.lt
 try have lx_ts := ts.lt
 try have lx_r9 := r9.lt
 try have lx_us := us.lt
 try have lx_r11 := r11.lt
 refine zF 21 [(1, zE ?v1_1), (3, zE ?v1_3), (8, zE ?v1_8), (18, zE ?v1_18)] (by kernel_rfl) (by kernel_rfl) (by kernel_rfl) ?_
 rotate_left 4
 simp only [jK, Nat.reduceAdd]
 refine xM 1 ?_
 repeat (first | go_big_quiet_skip | (go_big_quiet_want; first | ((first | refine qM rfl _ _ rfl rfl false (by simp) ?_ | refine qB ?_ | refine qC ?_); simp only [zn]; go_big_quiet_on) | (go_big_quiet_op; go_big_quiet_on)))
 refine wpQuiet_nil ?_
 refine zz (by rfl) (by first | rfl | simp [Region.wanted, yielded]) ?_ ?_
 ·intro wn za hE Kx hKx
  have zf := B.size; have zg := za.size; replace B := B.trans (za.mono B.size)
  (try replace r5 := r5.below za)
  (try replace rs := rs.below za)
  (try replace r8 := r8.below za)
  (try replace ts := ts.below za)
  (try replace r9 := r9.below za)
  (try replace us := us.below za)
  (try replace r11 := r11.below za)
  refine zG rfl (enters_of Tryz.func33 (by kernel_rfl) rfl) (by simp only [Act.eval, qo]; rfl) ?_
  refine (kI _ S Bs wn rs SN.out SC.out HBs.out).mono ?_; rintro e wm ⟨rfl, zl⟩; refine ⟨_, rfl, ?_⟩; have hz := hKx () wm trivial zl
  dsimp only [zE] at hz
  exact hz
 rintro ⟨⟩
 dsimp only [zE]
 simp only [zn]
 refine xM 1 ?_
 repeat (first | go_big_quiet_skip | (go_big_quiet_want; first | ((first | refine qM rfl _ _ rfl rfl false (by simp) ?_ | refine qB ?_ | refine qC ?_); simp only [zn]; go_big_quiet_on) | (go_big_quiet_op; go_big_quiet_on)))
 refine wpQuiet_nil ?_
 refine zz (by rfl) (by first | rfl | simp [Region.wanted, yielded]) ?_ ?_
 ·intro wn za hE Kx hKx
  have zf := B.size; have zg := za.size; replace B := B.trans (za.mono B.size)
  (try replace r5 := r5.below za)
  (try replace rs := rs.below za)
  (try replace r8 := r8.below za)
  (try replace ts := ts.below za)
  (try replace r9 := r9.below za)
  (try replace us := us.below za)
  (try replace r11 := r11.below za)
  refine zG rfl (enters_of Tryz.func35 (by kernel_rfl) rfl) (by simp only [Act.eval, qo]; rfl) ?_
  refine (X2 _ S Bs wn rs SN.out SC.out HBs.out).mono ?_; rintro e wm ⟨rfl, zl⟩; refine ⟨_, rfl, ?_⟩; have hz := hKx () wm trivial zl
  dsimp only [zE] at hz
  exact hz
 rintro ⟨⟩
 dsimp only [zE]
 simp only [zn]
 refine xM 4 ?_
 repeat (first | go_big_quiet_skip | (go_big_quiet_want; first | ((first | refine qM rfl _ _ rfl rfl false (by simp) ?_ | refine qB ?_ | refine qC ?_); simp only [zn]; go_big_quiet_on) | (go_big_quiet_op; go_big_quiet_on)))
 refine wpQuiet_nil ?_
 refine zz (by rfl) ?hw1_8 ?_ ?_
 case hw1_8 => kernel_rfl
 ·intro wn za hE Kx hKx
  have zf := B.size; have zg := za.size; replace B := B.trans (za.mono B.size)
  (try replace r5 := r5.below za)
  (try replace rs := rs.below za)
  (try replace r8 := r8.below za)
  (try replace ts := ts.below za)
  (try replace r9 := r9.below za)
  (try replace us := us.below za)
  (try replace r11 := r11.below za)
  refine zG rfl (enters_of Tryz.func35 (by kernel_rfl) rfl) (by simp only [Act.eval, qo]; rfl) ?_
  refine (X2 _ T Bt wn ts TN2.out TC.out HBt.out).mono ?_; rintro e wm ⟨rfl, zl⟩; refine ⟨_, rfl, ?_⟩; have hz := hKx () wm trivial zl
  dsimp only [zE] at hz
  exact hz
 rintro ⟨⟩
 dsimp only [zE]
 simp only [zn]
 refine xM 9 ?_
 repeat (first | go_big_quiet_skip | (go_big_quiet_want; first | ((first | refine qM rfl _ _ rfl rfl false (by simp) ?_ | refine qB ?_ | refine qC ?_); simp only [zn]; go_big_quiet_on) | (go_big_quiet_op; go_big_quiet_on)))
 refine wpQuiet_nil ?_
 refine zz (by rfl) ?hw1_18 ?_ ?_
 case hw1_18 => kernel_rfl
 ·intro wn za hE Kx hKx
  have zf := B.size; have zg := za.size; replace B := B.trans (za.mono B.size)
  (try replace r5 := r5.below za)
  (try replace rs := rs.below za)
  (try replace r8 := r8.below za)
  (try replace ts := ts.below za)
  (try replace r9 := r9.below za)
  (try replace us := us.below za)
  (try replace r11 := r11.below za)
  refine zG rfl (enters_of Tryz.func28 (by kernel_rfl) rfl) (by simp only [Act.eval, qo]; rfl) ?_
  refine (vW _ _ T T true wn us ts TN.out TN.out (decide_eq_true (EqS.eq.2 rfl))).mono ?_; rintro e wm ⟨rfl, zl⟩; refine ⟨_, rfl, ?_⟩; have hz := hKx () wm trivial zl
  dsimp only [zE] at hz
  exact hz
 rintro ⟨⟩
 dsimp only [zE]
 simp only [zn]
 refine xM 2 ?_
 repeat (first | go_big_quiet_skip | (go_big_quiet_want; first | ((first | refine qM rfl _ _ rfl rfl false (by simp) ?_ | refine qB ?_ | refine qC ?_); simp only [zn]; go_big_quiet_on) | (go_big_quiet_op; go_big_quiet_on)))
 refine wpQuiet_nil ?_
 refine zY ?_
 intro wn za hE
 have zf := B.size
 have zg := za.size
 replace B := B.trans (za.mono B.size)
 (try replace r5 := r5.below za)
 (try replace rs := rs.below za)
 (try replace r8 := r8.below za)
 (try replace ts := ts.below za)
 (try replace r9 := r9.below za)
 (try replace us := us.below za)
 (try replace r11 := r11.below za)
 clear hE
 try simp only [List.drop_succ_cons, List.drop_zero]
 refine zN.normal ?_
 clear rs r8 ts r9 us r11
 have l5 := r5.lt
 go_upto_region 9 with fail
 refine wp_region_lit ?_
 try simp only [zP]
 refine zy 1 ?_
 (refine yD rfl _ rfl Bt rfl ?_; intro b_fb cap wn zb zd fb za zg; have zf := B.size; replace B := B.trans (za.mono (by omega)); replace r5 := r5.of_eq (za.block _ (by omega)); simp only [zn])
 refine zy 1 ?_
 refine wpList_nil ?_
 have hfb : w.heap.size ≤ b_fb := by omega
 have ne5 : b_r5 ≠ b_fb := by omega
 have e0 : ((Bt.length : Nat) : Int) ≠ 0 := by omega
 have e00 : (((Bt.length : Nat) : Int) == 0) = false := by rw [beq_eq_false_iff_ne]; exact e0
 obtain ⟨p, hp⟩ : ∃ p : Nat, V % (Bt.length : Int) = (p : Int) := ⟨(V % (Bt.length : Int)).toNat, (Int.toNat_of_nonneg (Int.emod_nonneg _ e0)).symm⟩
 have t1 : Int.tmod V (Bt.length : Int) = (p : Int) := by rw [Int.tmod_eq_emod_of_nonneg V1]; exact hp
 have p2 : p < Bt.length := by have := Int.emod_lt_of_pos V (show (0 : Int) < (Bt.length : Int) by omega); omega
 obtain ⟨q, hq⟩ : ∃ q : Nat, Z % (Bt.length : Int) = (q : Int) := ⟨(Z % (Bt.length : Int)).toNat, (Int.toNat_of_nonneg (Int.emod_nonneg _ e0)).symm⟩
 have t2 : Int.tmod Z (Bt.length : Int) = (q : Int) := by rw [Int.tmod_eq_emod_of_nonneg Z1]; exact hq
 have q2 : q < Bt.length := by have := Int.emod_lt_of_pos Z (show (0 : Int) < (Bt.length : Int) by omega); omega
 clear hp hq
 obtain ⟨c, hc⟩ : ∃ c : Nat, (Bt.getD p 0).toNat = c := ⟨_, rfl⟩
 have HC := Lib.hid hc
 clear hc
 obtain ⟨U, hU⟩ : ∃ U, qw Bt 0 q = U := ⟨_, rfl⟩
 have UL : U.length ≤ 100 := by rw [← hU]; exact Nat.le_trans (Wn _ _ _) (by omega)
 have HU := Lib.hid hU
 clear hU
 obtain ⟨c2, hc2⟩ := zfA (c : Int) (IntKind.u8.wrap y)
 have HC2 := Lib.hid hc2
 clear hc2
 go_upto_region 10 with fail
 try simp only [zP]
 try have lx_r5 := r5.lt
 try have lx_fb := fb.lt
 refine zF 21 [(5, zE ?v2_5), (12, zE ?v2_12)] (by kernel_rfl) (by kernel_rfl) (by kernel_rfl) ?_
 rotate_left 2
 simp only [jK, Nat.reduceAdd]
 refine vT 5 ?_
 refine zz (by rfl) (by first | rfl | simp [Region.wanted, yielded]) ?_ ?_
 ·intro wn za hE Kx hKx
  have zf := B.size; have zg := za.size; replace B := B.trans (za.mono B.size)
  (try replace r5 := r5.below za)
  (try replace fb := fb.below za)
  refine y4 rfl Tryz.underlying75 rfl ?_; exact hKx () _ trivial (Below.refl _ _)
 rintro ⟨⟩
 dsimp only [zE]
 simp only [zn]
 refine vT 6 ?_
 refine zz (by rfl) (by first | rfl | simp [Region.wanted, yielded]) ?_ ?_
 ·intro wn za hE Kx hKx
  have zf := B.size; have zg := za.size; replace B := B.trans (za.mono B.size)
  (try replace r5 := r5.below za)
  (try replace fb := fb.below za)
  refine y4 rfl Tryz.underlying75 rfl ?_; exact hKx () _ trivial (Below.refl _ _)
 rintro ⟨⟩
 dsimp only [zE]
 simp only [zn]
 refine xM 8 ?_
 repeat (first | go_big_quiet_skip | (go_big_quiet_want; first | ((first | refine zo (t := 5) rfl _ _ _ rfl (fun w hw => kC ((Zg fb w hw).u8 p2 HC.out)) (by rfl) ?_ | refine qB ?_ | refine qC ?_); simp only [zn]; go_big_quiet_on) | (go_big_quiet_op; go_big_quiet_on)))
 refine wpQuiet_nil ?_
 refine zY ?_
 intro wn za hE
 have zf := B.size
 have zg := za.size
 replace B := B.trans (za.mono B.size)
 (try replace r5 := r5.below za)
 (try replace fb := fb.below za)
 clear hE
 try simp only [List.drop_succ_cons, List.drop_zero]
 refine Kd rfl _ _ rfl b_fb p _ rfl _ rfl fb p2 (by first | rfl | omega) c2 (by first | exact HC2.out | (trace_state; rfl)) ?_
 intro wq fb2 ze zg
 clear fb
 have fb := fb2
 clear fb2
 have zf := B.size
 replace B := qV.below B ze hfb B.size
 replace r5 := r5.of_eq (ze.block _ r5.lt ne5)
 obtain ⟨Bc, hBc⟩ : ∃ x, Bt.set p c2 = x := ⟨_, rfl⟩
 have lBc : Bc.length = Bt.length := by rw [← hBc, List.length_set]
 rw [hBc] at fb
 clear hBc HC HC2 ne5
 simp only [zn]
 refine wpList_nil ?_
 refine zN.normal ?_
 go_upto_region 11 with fail
 try simp only [zP]
 try have lx_r5 := r5.lt
 try have lx_fb := fb.lt
 refine zF 16 [(8, zE ?v3_8), (15, zd8 (wq.heap.size) 76 #[.string ⟨#[]⟩, .string ⟨#[]⟩, .string ⟨#[]⟩, .string ⟨#[]⟩])] (by kernel_rfl) (by kernel_rfl) (by kernel_rfl) ?_
 rotate_left 1
 simp only [jK, Nat.reduceAdd]
 refine xM 8 ?_
 repeat (first | go_big_quiet_skip | (go_big_quiet_want; first | ((first | refine jC (s := 75) (d := 9) rfl rfl (fun w hw => by (have h := (Zg fb w hw).conv cap; rw [lBc] at h; exact h)) ?_ | refine yh rfl Bt rfl _ rfl q (by first | rfl | omega) (by omega) U HU.out ?_ | refine zI rfl Bt A rfl rfl (by omega) ?_ | refine qB ?_ | refine qC ?_); simp only [zn]; go_big_quiet_on) | (go_big_quiet_op; go_big_quiet_on)))
 refine wpQuiet_nil ?_
 refine zz (by rfl) (by first | rfl | simp [Region.wanted, yielded]) ?_ ?_
 ·intro wn za hE Kx hKx
  have zf := B.size; have zg := za.size; replace B := B.trans (za.mono B.size)
  (try replace r5 := r5.below za)
  (try replace fb := fb.below za)
  refine Ws rfl Tryz.underlying9 _ rfl ?_; exact hKx () _ trivial (Below.refl _ _)
 rintro ⟨⟩
 dsimp only [zE]
 simp only [zn]
 refine xM 6 ?_
 repeat (first | go_big_quiet_skip | (go_big_quiet_want; first | ((first | refine jC (s := 75) (d := 9) rfl rfl (fun w hw => by (have h := (Zg fb w hw).conv cap; rw [lBc] at h; exact h)) ?_ | refine yh rfl Bt rfl _ rfl q (by first | rfl | omega) (by omega) U HU.out ?_ | refine zI rfl Bt A rfl rfl (by omega) ?_ | refine qB ?_ | refine qC ?_); simp only [zn]; go_big_quiet_on) | (go_big_quiet_op; go_big_quiet_on)))
 refine wpQuiet_nil ?_
 refine zz (by rfl) (by first | rfl | simp [Region.wanted, yielded]) ?_ ?_
 ·intro wn za hE Kx hKx
  have zf := B.size; have zg := za.size; replace B := B.trans (za.mono B.size)
  (try replace r5 := r5.below za)
  (try replace fb := fb.below za)
  refine zR (t := 76) _ (Xs _ _ rfl) ?_; intro b wm h1 h2 ht zl zm; exact hKx b wm ⟨Nat.le_trans za.size h1, ht⟩ (zl.mono h1)
 rintro b_r14
 dsimp only [zE, zd8]
 simp only [zn]
 refine zY ?_
 intro wn za hE
 have zf := B.size
 have zg := za.size
 replace B := B.trans (za.mono B.size)
 (try replace r5 := r5.below za)
 (try replace fb := fb.below za)
 obtain ⟨hge_r14, r14⟩ : _ ∧ zJ _ _ _ _ := hE 15
 clear hE
 try simp only [List.drop_succ_cons, List.drop_zero]
 go_wp2_with (first | (refine zq (t := 76) rfl _ _ rfl _ rfl _ rfl r14 (by kernel_rfl) rfl (by simp [Value.oneCell']) (qG B (by omega) ?_); clear r14 B; intro wn r14 ze zf zg B; simp only [zn]) | fail)
 refine zN.normal ?_
 clear r5 fb
 obtain ⟨X4, hX4⟩ : ∃ c : Array Value, #[.string (jk A), .string (jk Bc), .string (jk U), .string (jk (Bt ++ A))] = c := ⟨_, rfl⟩
 have HX := Lib.hid (show ∀ k, k < 4 → ∃ x : List UInt8, X4[k]? = some (.string (jk x)) ∧ x.length ≤ 200 by
  subst hX4; intro k hk
  match k, hk with
  | 0, _ => exact ⟨A, rfl, by omega⟩
  | 1, _ => exact ⟨Bc, rfl, by omega⟩
  | 2, _ => exact ⟨U, rfl, by omega⟩
  | 3, _ => exact ⟨Bt ++ A, rfl, by rw [List.length_append]; omega⟩)
 replace r14 : zJ 76 _ b_r14 X4 := hX4 ▸ r14
 clear hX4
 go_upto_region 12 with fail
 refine wp_region_lit ?_
 try simp only [zP]
 refine zy 1 ?_
 refine wpList_nil ?_
 go_wp2
 go_loopw [15, 16, 17, 18] (fun iv _ _ _ wr => ∃ k : Nat, k ≤ 4 ∧ iv = .int .i64 (k : Int) ∧ Below w.heap.size w wr ∧ zJ 76 wr b_r14 X4) (fun iv _ _ _ _ => (4 - intOf iv).toNat)
 case atStart => exact ⟨0, by omega, rfl, B, r14⟩
 case round =>
  clear B r14; obtain ⟨k, hk, rfl, B, r14⟩ := hrel; by_cases h4 : k < 4
  ·have d1 : decide ((k : Int) < 4) = true := decide_eq_true (by omega)
   have d2 : decide (k < 4) = true := decide_eq_true h4; obtain ⟨x0, hx, hlx⟩ := HX.out k h4; have HCX := Lib.hid hx; clear hx; obtain ⟨⟨S4, E⟩, hr⟩ : ∃ z, xQ x0 = z := ⟨_, rfl⟩; have RD := Lib.hid hr; obtain ⟨hn4, hc4, hE⟩ := KY hr; have C4 := Lib.hid hc4; have N4 := Lib.hid (show S4.pts.length ≤ 1000000 by omega); have M4 := Lib.hid (show S4.pts.length ≤ 17592186044416 by omega); have I4 := Lib.hid (fun (e : E = 0) => zcv (show xQ x0 = (S4, 0) from e ▸ hr)); have HE := Lib.hid hE; have ka : (⟨b_r14, 0, none⟩ : Addr).add k = ⟨b_r14, k, none⟩ := by unfold Addr.add; split <;> simp_all
   clear hr hc4 hn4 hE; go_upto_region 13 with fail
   refine wp_region_lit ?_; try simp only [zP]
   refine zy 2 ?_; refine wpList_nil ?_; go_upto_region 15 with fail
   refine wp_region_lit ?_; try simp only [zP]
   refine jp 3 ?_; repeat (first | go_big_quiet_skip | (go_big_quiet_want; first | ((first | refine zo (t := 9) rfl b_r14 k k rfl (fun w hw => zK ((zD r14 w hw).cell k HCX.out)) rfl ?_ | refine zo (t := 9) rfl b_r14 k k (congrArg (fun z => Value.pointer (some z)) ka) (fun w hw => zK ((zD r14 w hw).cell k HCX.out)) rfl ?_); simp only [zn]; go_big_quiet_on) | ((first | refine qB ?_ | refine qC ?_); simp only [zn]; go_big_quiet_on) | (go_big_quiet_op; go_big_quiet_on)))
   refine wpQuiet_nil ?_; refine qT (enters_of Tryz.func34 (by kernel_rfl) rfl) (c := Vm x0 S4 E _ (by omega) RD.out) (h := ?_); rintro e wn ⟨a5, n5, c5, rfl, us, za⟩; have zf := B.size; have zg := za.size; replace B := B.trans (za.mono B.size)
   (try replace r14 := r14.below za)
   refine ⟨_, rfl, ?_⟩; simp only [zn]; refine jp 3 ?_; repeat (first | go_big_quiet_skip | (go_big_quiet_want; first | ((first | refine zo (t := 9) rfl b_r14 k k rfl (fun w hw => zK ((zD r14 w hw).cell k HCX.out)) rfl ?_ | refine zo (t := 9) rfl b_r14 k k (congrArg (fun z => Value.pointer (some z)) ka) (fun w hw => zK ((zD r14 w hw).cell k HCX.out)) rfl ?_); simp only [zn]; go_big_quiet_on) | ((first | refine qB ?_ | refine qC ?_); simp only [zn]; go_big_quiet_on) | (go_big_quiet_op; go_big_quiet_on)))
   refine wpQuiet_nil ?_; obtain ⟨wK, hK⟩ : ∃ z, z = wn := ⟨_, rfl⟩; subst hK; have BG := B; have hwsK := BG.size; have B := Below.refl wK.heap.size wK; have H_r14 := Lib.hid r14; have H_us := Lib.hid us; try simp only [zP]
   (refine zu (t := 30) rfl _ (zW _ _ rfl) (z6 B ?_); clear B; intro b_r16 wn zb zd r16 za zf zk B; simp only [zn])
   (refine zq (t := 30) rfl _ _ rfl _ rfl _ rfl r16 (by kernel_rfl) rfl (by simp [qR, Value.oneCell']) (qG B (by omega) ?_); clear r16 B; intro wn r16 ze zf zg B; simp only [zn])
   refine jp 1 ?_; repeat (first | go_big_quiet_skip | (go_big_quiet_want; first | ((first | refine zo (t := 9) rfl b_r14 k k rfl (fun w hw => zK ((zD r14 w hw).cell k HCX.out)) rfl ?_ | refine zo (t := 9) rfl b_r14 k k (congrArg (fun z => Value.pointer (some z)) ka) (fun w hw => zK ((zD r14 w hw).cell k HCX.out)) rfl ?_); simp only [zn]; go_big_quiet_on) | ((first | refine qB ?_ | refine qC ?_); simp only [zn]; go_big_quiet_on) | (go_big_quiet_op; go_big_quiet_on)))
   refine wpQuiet_nil ?_; refine wpList_nil ?_; clear r14; clear us; have r14 := by first | exact H_r14.out.below B | exact H_r14.out.of_eq (B.block _ H_r14.out.lt)
   have us := by first | exact H_us.out.below B | exact H_us.out.of_eq (B.block _ H_us.out.lt)
   clear H_r14; clear H_us; have B0 := BG.trans (B.mono hwsK); clear B BG hwsK; have B := B0; clear B0; go_upto_region 16 with fail
   refine wp_region_lit ?_; try simp only [zP]
   refine jp 3 ?_; repeat (first | go_big_quiet_skip | (go_big_quiet_want; first | ((first | refine zo (t := 9) rfl b_r14 k k rfl (fun w hw => zK ((zD r14 w hw).cell k HCX.out)) rfl ?_ | refine zo (t := 9) rfl b_r14 k k (congrArg (fun z => Value.pointer (some z)) ka) (fun w hw => zK ((zD r14 w hw).cell k HCX.out)) rfl ?_); simp only [zn]; go_big_quiet_on) | ((first | refine qB ?_ | refine qC ?_); simp only [zn]; go_big_quiet_on) | (go_big_quiet_op; go_big_quiet_on)))
   refine wpQuiet_nil ?_; refine qT (enters_of Tryz.func36 (by kernel_rfl) rfl) (c := zdk x0 S4 E _ (by omega) RD.out) (h := ?_); rintro e wn ⟨a6, n6, c6, rfl, vs, za⟩; have zf := B.size; have zg := za.size; replace B := B.trans (za.mono B.size)
   (try replace r14 := r14.below za)
   (try replace us := us.below za)
   (try replace r16 := r16.below za)
   refine ⟨_, rfl, ?_⟩; simp only [zn]; obtain ⟨wK, hK⟩ : ∃ z, z = wn := ⟨_, rfl⟩; subst hK; have BG := B; have hwsK := BG.size; have B := Below.refl wK.heap.size wK; have H_r14 := Lib.hid r14; have H_us := Lib.hid us; have H_r16 := Lib.hid r16; have H_vs := Lib.hid vs; try simp only [zP]
   (refine zu (t := 78) rfl _ (yi _ _ rfl) (z6 B ?_); clear B; intro b_r18 wn zb zd r18 za zf zk B; simp only [zn])
   (refine zq (t := 78) rfl _ _ rfl _ rfl _ rfl r18 (by kernel_rfl) rfl (by simp [qR, J5, Value.oneCell']) (qG B (by omega) ?_); clear r18 B; intro wn r18 ze zf zg B; simp only [zn])
   refine wpList_nil ?_; clear r14; clear us; clear r16; clear vs; have r14 := by first | exact H_r14.out.below B | exact H_r14.out.of_eq (B.block _ H_r14.out.lt)
   have us := by first | exact H_us.out.below B | exact H_us.out.of_eq (B.block _ H_us.out.lt)
   have r16 := by first | exact H_r16.out.below B | exact H_r16.out.of_eq (B.block _ H_r16.out.lt)
   have vs := by first | exact H_vs.out.below B | exact H_vs.out.of_eq (B.block _ H_vs.out.lt)
   clear H_r14; clear H_us; clear H_r16; clear H_vs; have B0 := BG.trans (B.mono hwsK); clear B BG hwsK; have B := B0; clear B0; have q0 : (E != E) = false := by simp
   go_upto_region 17 with fail
   rcases HE.out with hE | hE | hE
   ·subst hE
    try simp only [zP]
    try have lx_r14 := r14.lt
    try have lx_us := us.lt
    try have lx_r16 := r16.lt
    try have lx_vs := vs.lt
    try have lx_r18 := r18.lt
    refine zF 23 [(8, zE ?v4_8), (16, zE ?v4_16)] (by kernel_rfl) (by kernel_rfl) (by kernel_rfl) ?_
    rotate_left 2
    simp only [jK, Nat.reduceAdd]; refine xM 8 ?_
    repeat (first | go_big_quiet_skip | (go_big_quiet_want; first | (refine zo (t := 30) rfl _ _ _ rfl (fun w hw => WR (zD r18 w hw)) (by rfl) ?_; simp only [zn]; go_big_quiet_on) | (refine zo (t := 53) rfl _ _ _ rfl (fun w hw => ze4 (zD r18 w hw)) (by rfl) ?_; simp only [zn]; go_big_quiet_on) | ((first | refine zo (t := 9) rfl b_r14 k k rfl (fun w hw => zK ((zD r14 w hw).cell k HCX.out)) rfl ?_ | refine zo (t := 9) rfl b_r14 k k (congrArg (fun z => Value.pointer (some z)) ka) (fun w hw => zK ((zD r14 w hw).cell k HCX.out)) rfl ?_); simp only [zn]; go_big_quiet_on) | (refine qM rfl _ _ rfl rfl false (by simp) ?_; simp only [zn]; go_big_quiet_on) | ((first | refine qB ?_ | refine qC ?_); simp only [zn]; go_big_quiet_on) | (go_big_quiet_op; go_big_quiet_on)))
    refine wpQuiet_nil ?_; refine zz (by rfl) ?hw4_8 ?_ ?_
    case hw4_8 => kernel_rfl
    ·intro wn za hE Kx hKx
     have zf := B.size; have zg := za.size; replace B := B.trans (za.mono B.size)
     (try replace r14 := r14.below za)
     (try replace us := us.below za)
     (try replace r16 := r16.below za)
     (try replace vs := vs.below za)
     (try replace r18 := r18.below za)
     refine zG rfl (enters_of Tryz.func28 (by kernel_rfl) rfl) (by simp only [Act.eval, qo]; rfl) ?_
     refine (vW _ _ S4 S4 true wn us vs N4.out N4.out (decide_eq_true (EqS.eq.2 rfl))).mono ?_; rintro e wm ⟨rfl, zl⟩; refine ⟨_, rfl, ?_⟩; have hz := hKx () wm trivial zl
     dsimp only [zE] at hz
     exact hz
    rintro ⟨⟩
    dsimp only [zE]
    simp only [zn]; refine xM 7 ?_
    repeat (first | go_big_quiet_skip | (go_big_quiet_want; first | (refine zo (t := 30) rfl _ _ _ rfl (fun w hw => WR (zD r18 w hw)) (by rfl) ?_; simp only [zn]; go_big_quiet_on) | ((first | refine zo (t := 9) rfl b_r14 k k rfl (fun w hw => zK ((zD r14 w hw).cell k HCX.out)) rfl ?_ | refine zo (t := 9) rfl b_r14 k k (congrArg (fun z => Value.pointer (some z)) ka) (fun w hw => zK ((zD r14 w hw).cell k HCX.out)) rfl ?_); simp only [zn]; go_big_quiet_on) | (refine qM rfl _ _ rfl rfl false (by simp) ?_; simp only [zn]; go_big_quiet_on) | ((first | refine qB ?_ | refine qC ?_); simp only [zn]; go_big_quiet_on) | (go_big_quiet_op; go_big_quiet_on)))
    refine wpQuiet_nil ?_; refine zz (by rfl) ?hw4_16 ?_ ?_
    case hw4_16 => kernel_rfl
    ·intro wn za hE Kx hKx
     have zf := B.size; have zg := za.size; replace B := B.trans (za.mono B.size)
     (try replace r14 := r14.below za)
     (try replace us := us.below za)
     (try replace r16 := r16.below za)
     (try replace vs := vs.below za)
     (try replace r18 := r18.below za)
     refine zG rfl (enters_of Tryz.func33 (by kernel_rfl) rfl) (by simp only [Act.eval, qo]; rfl) ?_
     refine (kI _ S4 x0 wn us M4.out C4.out (I4.out rfl)).mono ?_; rintro e wm ⟨rfl, zl⟩; refine ⟨_, rfl, ?_⟩; have hz := hKx () wm trivial zl
     dsimp only [zE] at hz
     exact hz
    rintro ⟨⟩
    dsimp only [zE]
    simp only [zn]; refine xM 6 ?_; repeat (first | go_big_quiet_skip | (go_big_quiet_want; first | ((first | refine zo (t := 9) rfl b_r14 k k rfl (fun w hw => zK ((zD r14 w hw).cell k HCX.out)) rfl ?_ | refine zo (t := 9) rfl b_r14 k k (congrArg (fun z => Value.pointer (some z)) ka) (fun w hw => zK ((zD r14 w hw).cell k HCX.out)) rfl ?_); simp only [zn]; go_big_quiet_on) | (refine qM rfl _ _ rfl rfl false (by simp) ?_; simp only [zn]; go_big_quiet_on) | ((first | refine qB ?_ | refine qC ?_); simp only [zn]; go_big_quiet_on) | (go_big_quiet_op; go_big_quiet_on)))
    refine wpQuiet_nil ?_; refine zY ?_; intro wn za hE; have zf := B.size; have zg := za.size; replace B := B.trans (za.mono B.size)
    (try replace r14 := r14.below za)
    (try replace us := us.below za)
    (try replace r16 := r16.below za)
    (try replace vs := vs.below za)
    (try replace r18 := r18.below za)
    clear hE; try simp only [List.drop_succ_cons, List.drop_zero]
    refine zN.normal ?_; clear us r16 vs r18; go_upto_region 14 with fail
    refine wp_region_lit ?_; try simp only [zP]
    refine zy 3 ?_; refine wpList_nil ?_; go_wp2; go_roundw
    case rel => exact ⟨k + 1, by omega, by go_num, B, r14⟩
    case measure => simp [intOf]; try omega
   ·subst hE
    try simp only [zP]
    try have lx_r14 := r14.lt
    try have lx_us := us.lt
    try have lx_r16 := r16.lt
    try have lx_vs := vs.lt
    try have lx_r18 := r18.lt
    refine zF 23 [(8, zE ?v5_8)] (by kernel_rfl) (by kernel_rfl) (by kernel_rfl) ?_
    rotate_left 1
    simp only [jK, Nat.reduceAdd]; refine xM 8 ?_
    repeat (first | go_big_quiet_skip | (go_big_quiet_want; first | (refine zo (t := 30) rfl _ _ _ rfl (fun w hw => WR (zD r18 w hw)) (by rfl) ?_; simp only [zn]; go_big_quiet_on) | (refine zo (t := 53) rfl _ _ _ rfl (fun w hw => ze4 (zD r18 w hw)) (by rfl) ?_; simp only [zn]; go_big_quiet_on) | ((first | refine zo (t := 9) rfl b_r14 k k rfl (fun w hw => zK ((zD r14 w hw).cell k HCX.out)) rfl ?_ | refine zo (t := 9) rfl b_r14 k k (congrArg (fun z => Value.pointer (some z)) ka) (fun w hw => zK ((zD r14 w hw).cell k HCX.out)) rfl ?_); simp only [zn]; go_big_quiet_on) | (refine qM rfl _ _ rfl rfl false (by simp) ?_; simp only [zn]; go_big_quiet_on) | ((first | refine qB ?_ | refine qC ?_); simp only [zn]; go_big_quiet_on) | (go_big_quiet_op; go_big_quiet_on)))
    refine wpQuiet_nil ?_; refine zz (by rfl) ?hw5_8 ?_ ?_
    case hw5_8 => kernel_rfl
    ·intro wn za hE Kx hKx
     have zf := B.size; have zg := za.size; replace B := B.trans (za.mono B.size)
     (try replace r14 := r14.below za)
     (try replace us := us.below za)
     (try replace r16 := r16.below za)
     (try replace vs := vs.below za)
     (try replace r18 := r18.below za)
     refine zG rfl (enters_of Tryz.func28 (by kernel_rfl) rfl) (by simp only [Act.eval, qo]; rfl) ?_
     refine (vW _ _ S4 S4 true wn us vs N4.out N4.out (decide_eq_true (EqS.eq.2 rfl))).mono ?_; rintro e wm ⟨rfl, zl⟩; refine ⟨_, rfl, ?_⟩; have hz := hKx () wm trivial zl
     dsimp only [zE] at hz
     exact hz
    rintro ⟨⟩
    dsimp only [zE]
    simp only [zn]; refine xM 7 ?_
    repeat (first | go_big_quiet_skip | (go_big_quiet_want; first | (refine zo (t := 30) rfl _ _ _ rfl (fun w hw => WR (zD r18 w hw)) (by rfl) ?_; simp only [zn]; go_big_quiet_on) | ((first | refine zo (t := 9) rfl b_r14 k k rfl (fun w hw => zK ((zD r14 w hw).cell k HCX.out)) rfl ?_ | refine zo (t := 9) rfl b_r14 k k (congrArg (fun z => Value.pointer (some z)) ka) (fun w hw => zK ((zD r14 w hw).cell k HCX.out)) rfl ?_); simp only [zn]; go_big_quiet_on) | (refine qM rfl _ _ rfl rfl false (by simp) ?_; simp only [zn]; go_big_quiet_on) | ((first | refine qB ?_ | refine qC ?_); simp only [zn]; go_big_quiet_on) | (go_big_quiet_op; go_big_quiet_on)))
    refine wpQuiet_nil ?_; refine vd ?hw5_16 ?_
    case hw5_16 => kernel_rfl
    simp only [zn]; refine xM 6 ?_; repeat (first | go_big_quiet_skip | (go_big_quiet_want; first | ((first | refine zo (t := 9) rfl b_r14 k k rfl (fun w hw => zK ((zD r14 w hw).cell k HCX.out)) rfl ?_ | refine zo (t := 9) rfl b_r14 k k (congrArg (fun z => Value.pointer (some z)) ka) (fun w hw => zK ((zD r14 w hw).cell k HCX.out)) rfl ?_); simp only [zn]; go_big_quiet_on) | (refine qM rfl _ _ rfl rfl false (by simp) ?_; simp only [zn]; go_big_quiet_on) | ((first | refine qB ?_ | refine qC ?_); simp only [zn]; go_big_quiet_on) | (go_big_quiet_op; go_big_quiet_on)))
    refine wpQuiet_nil ?_; refine zY ?_; intro wn za hE; have zf := B.size; have zg := za.size; replace B := B.trans (za.mono B.size)
    (try replace r14 := r14.below za)
    (try replace us := us.below za)
    (try replace r16 := r16.below za)
    (try replace vs := vs.below za)
    (try replace r18 := r18.below za)
    clear hE; try simp only [List.drop_succ_cons, List.drop_zero]
    refine zN.normal ?_; clear us r16 vs r18; go_upto_region 14 with fail
    refine wp_region_lit ?_; try simp only [zP]
    refine zy 3 ?_; refine wpList_nil ?_; go_wp2; go_roundw
    case rel => exact ⟨k + 1, by omega, by go_num, B, r14⟩
    case measure => simp [intOf]; try omega
   ·subst hE
    try simp only [zP]
    try have lx_r14 := r14.lt
    try have lx_us := us.lt
    try have lx_r16 := r16.lt
    try have lx_vs := vs.lt
    try have lx_r18 := r18.lt
    refine zF 23 [(8, zE ?v6_8)] (by kernel_rfl) (by kernel_rfl) (by kernel_rfl) ?_
    rotate_left 1
    simp only [jK, Nat.reduceAdd]; refine xM 8 ?_
    repeat (first | go_big_quiet_skip | (go_big_quiet_want; first | (refine zo (t := 30) rfl _ _ _ rfl (fun w hw => WR (zD r18 w hw)) (by rfl) ?_; simp only [zn]; go_big_quiet_on) | (refine zo (t := 53) rfl _ _ _ rfl (fun w hw => ze4 (zD r18 w hw)) (by rfl) ?_; simp only [zn]; go_big_quiet_on) | ((first | refine zo (t := 9) rfl b_r14 k k rfl (fun w hw => zK ((zD r14 w hw).cell k HCX.out)) rfl ?_ | refine zo (t := 9) rfl b_r14 k k (congrArg (fun z => Value.pointer (some z)) ka) (fun w hw => zK ((zD r14 w hw).cell k HCX.out)) rfl ?_); simp only [zn]; go_big_quiet_on) | (refine qM rfl _ _ rfl rfl false (by simp) ?_; simp only [zn]; go_big_quiet_on) | ((first | refine qB ?_ | refine qC ?_); simp only [zn]; go_big_quiet_on) | (go_big_quiet_op; go_big_quiet_on)))
    refine wpQuiet_nil ?_; refine zz (by rfl) ?hw6_8 ?_ ?_
    case hw6_8 => kernel_rfl
    ·intro wn za hE Kx hKx
     have zf := B.size; have zg := za.size; replace B := B.trans (za.mono B.size)
     (try replace r14 := r14.below za)
     (try replace us := us.below za)
     (try replace r16 := r16.below za)
     (try replace vs := vs.below za)
     (try replace r18 := r18.below za)
     refine zG rfl (enters_of Tryz.func28 (by kernel_rfl) rfl) (by simp only [Act.eval, qo]; rfl) ?_
     refine (vW _ _ S4 S4 true wn us vs N4.out N4.out (decide_eq_true (EqS.eq.2 rfl))).mono ?_; rintro e wm ⟨rfl, zl⟩; refine ⟨_, rfl, ?_⟩; have hz := hKx () wm trivial zl
     dsimp only [zE] at hz
     exact hz
    rintro ⟨⟩
    dsimp only [zE]
    simp only [zn]; refine xM 7 ?_
    repeat (first | go_big_quiet_skip | (go_big_quiet_want; first | (refine zo (t := 30) rfl _ _ _ rfl (fun w hw => WR (zD r18 w hw)) (by rfl) ?_; simp only [zn]; go_big_quiet_on) | ((first | refine zo (t := 9) rfl b_r14 k k rfl (fun w hw => zK ((zD r14 w hw).cell k HCX.out)) rfl ?_ | refine zo (t := 9) rfl b_r14 k k (congrArg (fun z => Value.pointer (some z)) ka) (fun w hw => zK ((zD r14 w hw).cell k HCX.out)) rfl ?_); simp only [zn]; go_big_quiet_on) | (refine qM rfl _ _ rfl rfl false (by simp) ?_; simp only [zn]; go_big_quiet_on) | ((first | refine qB ?_ | refine qC ?_); simp only [zn]; go_big_quiet_on) | (go_big_quiet_op; go_big_quiet_on)))
    refine wpQuiet_nil ?_; refine vd ?hw6_16 ?_
    case hw6_16 => kernel_rfl
    simp only [zn]; refine xM 6 ?_; repeat (first | go_big_quiet_skip | (go_big_quiet_want; first | ((first | refine zo (t := 9) rfl b_r14 k k rfl (fun w hw => zK ((zD r14 w hw).cell k HCX.out)) rfl ?_ | refine zo (t := 9) rfl b_r14 k k (congrArg (fun z => Value.pointer (some z)) ka) (fun w hw => zK ((zD r14 w hw).cell k HCX.out)) rfl ?_); simp only [zn]; go_big_quiet_on) | (refine qM rfl _ _ rfl rfl false (by simp) ?_; simp only [zn]; go_big_quiet_on) | ((first | refine qB ?_ | refine qC ?_); simp only [zn]; go_big_quiet_on) | (go_big_quiet_op; go_big_quiet_on)))
    refine wpQuiet_nil ?_; refine zY ?_; intro wn za hE; have zf := B.size; have zg := za.size; replace B := B.trans (za.mono B.size)
    (try replace r14 := r14.below za)
    (try replace us := us.below za)
    (try replace r16 := r16.below za)
    (try replace vs := vs.below za)
    (try replace r18 := r18.below za)
    clear hE; try simp only [List.drop_succ_cons, List.drop_zero]
    refine zN.normal ?_; clear us r16 vs r18; go_upto_region 14 with fail
    refine wp_region_lit ?_; try simp only [zP]
    refine zy 3 ?_; refine wpList_nil ?_; go_wp2; go_roundw
    case rel => exact ⟨k + 1, by omega, by go_num, B, r14⟩
    case measure => simp [intOf]; try omega
  ·have d1 : decide ((k : Int) < 4) = false := decide_eq_false (by omega)
   have d2 : decide (k < 4) = false := decide_eq_false h4; go_upto_region 13 with fail
   refine wp_region_lit ?_; try simp only [zP]
   refine zy 2 ?_; refine wpList_nil ?_; go_upto_region 19 with fail
   refine wp_region_lit ?_; try simp only [zP]
   refine zy 2 ?_; refine wpList_nil ?_; go_wp2; go_ret; exact ⟨rfl, B⟩
namespace strokeBytes
open Go.ChangeShapes Go.WideShapes Go.ChangeAt Go.RowKit
open Go.ChangeMaps (open_string shut_string)
set_option maxRecDepth 100000 in
theorem lifted (os : Os) (started : os.Started) (H : Type) (enc : TypeId × Value → H) :
  ReturnsInHanded {} Tryz.checked os 8 .any (fun w args => (Rows.strokeBytesSpec.pre enc Tryz.prog Tryz.f8 [] false w args ∧ laidMetH Tryz.prog Yl w) ∧ sizedMet enc Tryz.prog Tryz.f8 (OpenSpec.ofChange Rows.strokeBytesSpec) false w args) (Rows.strokeBytesSpec.post enc Tryz.prog Tryz.f8 false true false false) := by
 refine returnsInHanded_of_change_and (C := Tryz.checked) (X := fun w _ => laidMetH Tryz.prog Yl w) (fun _ _ _ hh h => h.of_heap hh) own started (by kernel_rfl) Tryz.func8
  (ChangeSpec.witness_shaped (enc := enc) (C := Tryz.checked) (os := os) (X := fun w _ => laidMetH Tryz.prog Yl w) false (World.doorLaid Tryz.prog 400 os) #[.agg #[.slice none 0 0, .int .i64 0, .int .i64 0], .string ⟨#[]⟩, .agg #[.int .i64 0, .int .i64 0, .int .i64 0]] 8 rfl (World.shaped_of_RefB (by kernel_rfl) (by kernel_rfl)) (by kernel_rfl) (by kernel_rfl) (by kernel_rfl) (zbA os _)) ?_
 intro W base args ds gs before hval0 hW _ hsz0 hL _
 have hlm := Yn hL
 have hval : ∀ (j : Nat) t v, Tryz.f8.params[j]? = some t → args[j]? = some v → Value.okWide Tryz.prog W .any base t v := hval0
 have hW' := hW
 obtain ⟨p, q, hA0, hV, rfl, hfz, hnd⟩ := hW
 have hA : DataW.TrodAll enc Tryz.prog W 0 (fun _ => true) true Tryz.f8.params.toList args.toList ds p := hA0
 rw [Tryz.params8] at hA hval hsz0
 obtain ⟨v0, vs0, d0, ds0, p0, q0, hargs, rfl, rfl, h0, r0⟩ := trodAll_cons hA
 obtain ⟨v1, vs1, d1, ds1, p1, q1, rfl, rfl, rfl, h1, r1⟩ := trodAll_cons r0
 obtain ⟨v2, vs2, d2, ds2, p2, q2, rfl, rfl, rfl, h2, r2⟩ := trodAll_cons r1
 obtain ⟨rfl, rfl, rfl⟩ := trodAll_nil r2
 obtain rfl : args = #[v0, v1, v2] := by cases args; simp_all
 obtain ⟨rfl, rfl⟩ := trodVars_none hV
 have hwt0 : ∀ n ∈ DataW.weights Tryz.prog 24 d0, n ≤ reachBytes := fun n hn => by simpa using List.all_eq_true.1 hsz0 n (DataW.weights_mem_each (j := 0) rfl rfl n hn)
 have k0 := h0
 have lt0 : ∀ x ∈ p0, x.block < W.heap.size := by obtain ⟨m, hm⟩ := k0; exact DataW.trod_lt m _ _ _ hm
 have k1 := h1
 have lt1 : ∀ x ∈ p1, x.block < W.heap.size := by obtain ⟨m, hm⟩ := k1; exact DataW.trod_lt m _ _ _ hm
 have k2 := h2
 have lt2 : ∀ x ∈ p2, x.block < W.heap.size := by obtain ⟨m, hm⟩ := k2; exact DataW.trod_lt m _ _ _ hm
 obtain ⟨vL0, L0, how0, val0, rfl, hL0, hLn0, hhw0, hvl0⟩ := KO (hval 0 24 v0 rfl rfl) h0 hwt0
 obtain ⟨a1, rfl, rfl, rfl, w1⟩ := open_string Tryz.underlying9 (hval 1 9 v1 rfl rfl) h1
 obtain ⟨a2, b2, c2, rfl, w2⟩ := zaa (hval 2 71 v2 rfl rfl) h2
 clear hA0 hval0
 refine (Zl vL0 L0 how0 val0 a1 a2 b2 c2  w1  W hlm hL0 hLn0).mono fun e W' ⟨he, bel⟩ => ?_
 subst he
 exact ⟨_, rfl, _, _, _, [], _, [], hW', trodAll_mk1 (shut_bool Tryz.underlying4 _), (trodAll_cons_mk (Below.trod Xc (by kernel_rfl) (of_decide_eq_true (by kernel_rfl)) k0 bel lt0) (trodAll_cons_mk (Below.trod Xc (by kernel_rfl) (of_decide_eq_true (by kernel_rfl)) k1 bel lt1) (trodAll_cons_mk (Below.trod Xc (by kernel_rfl) (of_decide_eq_true (by kernel_rfl)) k2 bel lt2) trodAll_mk0))), rfl, bel.frame _, fun h => by cases h⟩
theorem over : Rows.strokeBytesRow.holds Tryz.pinned (OpenSpec.ofChange Rows.strokeBytesSpec) :=
 OpenClaim.holds_of_wide 8 Tryz.f8 rfl rfl rfl rfl rfl rfl rfl ⟨rfl, rfl, rfl, rfl, rfl⟩ rfl rfl rfl rfl rfl (by kernel_rfl) Tryz.func8 (by kernel_rfl)
  (of_decide_eq_true (by kernel_rfl)) (by unfold Func.isWrapper; first | (rw [if_pos (by decide +kernel)]; kernel_rfl) | (rw [if_neg (by decide +kernel)]; exact ⟨rfl, rfl⟩))
  (fun os started H enc _ => lifted os started H enc)
/-- THE STATEMENT: StrokeBytes returns true for every input, and its arguments read as they did; what the listed variable holds is tied to the program's text. -/
theorem proved : Rows.StrokeBytesCardSaid := by
 unfold Rows.StrokeBytesCardSaid Rows.strokeBytesCard
 exact Claim7.holds_tied_plain_at .later [] [.data] true _ false over (fun _ h => by cases h) (by kernel_rfl) (fun _ h => by cases h) strokeBytes_row_tie rfl ⟨rfl, rfl⟩ (by kernel_rfl) rfl
  (fun f fn hf hfn => by
   obtain rfl : f = 8 := Option.some.inj ((show Tryz.prog.funcNamed "gouache/gouachelaw14.StrokeBytes" = some 8 by kernel_rfl).symm.trans hf) |>.symm
   obtain rfl : fn = Tryz.f8 := (Option.some.inj (Tryz.func8.symm.trans hfn)).symm; exact ⟨by kernel_rfl, fun j t ht => by
    rw [Tryz.params8] at ht; have hm : t ∈ [24, 9, 71] := by simpa using Array.mem_of_getElem? ht
    have hall : ([24, 9, 71].all fun u => !Tryz.prog.wantsStandIn u) = true := by kernel_rfl
    exact (show Tryz.prog.wantsStandIn t = false by simpa using List.all_eq_true.1 hall t hm)⟩)
  (by kernel_rfl)
end strokeBytes
end Go.Proofs.YtepelndbbhdofaaGreatDoor
