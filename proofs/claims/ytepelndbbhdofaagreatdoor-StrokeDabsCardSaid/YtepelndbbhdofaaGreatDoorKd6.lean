/- StrokeDabs: for every made stroke with one field changed, and for every made stroke, Valid, Dabs and Area agree with the reference: the law returns true for every input, and its arguments read as they did; what the listed variable holds is tied to the program's text. No other condition. -/
import Derived.Test.YtepelndbbhdofaaGreatDoorKd5
import Derived.Lib.AppendZeros

/- Plain: made strokes are valid, lie near the origin, and paint without an error. -/
namespace Go.Proofs.YtepelndbbhdofaaGreatDoor
open Go.RowKit Pl
set_option linter.unusedVariables false
set_option linter.unusedSimpArgs false
set_option maxRecDepth 20000
/-- Dabs within the bounds of the points. -/
def InD (m n R : Int) (d : Db) : Prop := (m ≤ d.x ∧ d.x ≤ n) ∧ (m ≤ d.y ∧ d.y ≤ n) ∧ 0 ≤ d.r ∧ d.r ≤ R
def InS (m n : Int) (a : Sp) : Prop := (m ≤ a.x ∧ a.x ≤ n) ∧ (m ≤ a.y ∧ a.y ≤ n)
theorem uw (z : Int) : 0 ≤ z * z := by
 rcases Int.le_total 0 z with h | h
 ·exact Int.mul_nonneg h h
 ·have := Int.mul_nonneg (show 0 ≤ -z by omega) (show 0 ≤ -z by omega)
  rwa [Int.neg_mul_neg] at this
theorem zb6 {a b : Sp} {D s : Int} (hs : 0 ≤ s) (hx : -D ≤ b.x - a.x ∧ b.x - a.x ≤ D) (hy : -D ≤ b.y - a.y ∧ b.y - a.y ≤ D) (h : D * D + D * D < (s + 1) * (s + 1)) : j9 a b ≤ s := by
 have sq : ∀ {z : Int}, -D ≤ z ∧ z ≤ D → z * z ≤ D * D := fun {z} hz => (wa (M := D) hz hz).2
 have h1 := sq hx
 have h2 := sq hy
 unfold j9
 rcases Int.lt_or_le s ((sqN (yF a b).toNat : Nat) : Int) with k | k
 ·have h3 : (s + 1).toNat ≤ sqN (yF a b).toNat := by omega
  have h4 := Q2.1 h3; have h5 : ((s + 1).toNat * (s + 1).toNat : Nat) ≤ (yF a b).toNat := h4; have h6 : (((s + 1).toNat * (s + 1).toNat : Nat) : Int) = (s + 1) * (s + 1) := by rw [Int.natCast_mul]; congr 1 <;> omega
  have h7 : yF a b ≤ D * D + D * D := Int.add_le_add h1 h2; have hnn : 0 ≤ yF a b := Int.add_nonneg (uw _) (uw _); have h8 : ((yF a b).toNat : Int) = yF a b := Int.toNat_of_nonneg hnn; have h9 : (s + 1) * (s + 1) ≤ yF a b := by rw [← h6, ← h8]; exact Int.ofNat_le.2 h5
  exact absurd (Int.lt_of_le_of_lt (Int.le_trans h9 h7) h) (Int.lt_irrefl _)
 ·exact k
theorem Ky {l : List Sp} {s : Int} (hs : 0 ≤ s) (h : ∀ j, j + 1 < l.length → j9 (pAt l j) (pAt l (j + 1)) ≤ s) : ∀ k, k + 1 ≤ l.length → qM l k ≤ k * s
 | 0, _ => by show (0 : Int) ≤ _; omega
 | k + 1, hk => by
  have e : qM l (k + 1) = qM l k + j9 (pAt l k) (pAt l (k + 1)) := rfl; have h1 := Ky hs h k (by omega); have h2 := h k hk; rw [e, Int.natCast_add, Int.add_mul]; omega
theorem Vm (L : List Int) (k : Nat) : InS (-100) 299 (v7 L k) ∧ 0 ≤ (v7 L k).p ∧ (v7 L k).p ≤ 255 := by
 have h1 := jw L (6 + 3 * k) (m := 400) (by omega)
 have h2 := jw L (7 + 3 * k) (m := 400) (by omega)
 have h3 := jw L (8 + 3 * k) (m := 256) (by omega)
 unfold v7 InS
 simp only
 omega
theorem Km (L : List Int) : ∀ a ∈ (qv L).pts, InS (-100) 299 a ∧ 0 ≤ a.p ∧ a.p ≤ 255 := fun a ha => by
 obtain ⟨k, _, rfl⟩ := List.mem_map.1 ha
 exact Vm L k
theorem yw (L : List Int) : (qv L).pts.length = madeN L := uv _ _
theorem zce (L : List Int) : VSk (qv L) := by
 have hn := wL L
 have hl := yw L
 have r0 := jw L 0 (m := 64) (by omega)
 have s0 := jw L 1 (m := 120) (by omega)
 have p0 := jw L 2 (m := 100) (by omega)
 have hat : ∀ j, j < (qv L).pts.length → InS (-100) 299 (pAt (qv L).pts j) := fun j hj => (Km L _ (List.mem_of_getElem? (qk hj))).1
 have hlen : ∀ j, j + 1 < (qv L).pts.length → j9 (pAt (qv L).pts j) (pAt (qv L).pts (j + 1)) ≤ 600 := fun j hj => by
  obtain ⟨a1, a2⟩ := hat j (by omega); obtain ⟨b1, b2⟩ := hat (j + 1) hj; exact zb6 (D := 400) (by omega) (by omega) (by omega) (by decide)
 have hpre := Ky (by omega) hlen ((qv L).pts.length - 1) (by omega)
 have hspa : (qv L).spa = 8 + jh L 1 120 := rfl
 have hrad : (qv L).rad = 1 + jh L 0 64 := rfl
 have hpha : (qv L).pha = jh L 2 100 := rfl
 refine ⟨by omega, by omega, by omega, by omega, by omega, by omega, by omega, by omega, fun a ha => ?_, ?_⟩
 ·obtain ⟨⟨h1, h2⟩, h3, h4⟩ := Km L a ha
  unfold okS; omega
 ·unfold jY
  have : (((qv L).pts.length - 1 : Nat) : Int) * 600 ≤ 5 * 600 := by omega
  omega
theorem Yk (L : List Int) : jj (qv L) = true := (jq _).2 (zce L)
/- Plain: painting made strokes onto made rasters ends without an error. -/
def zfi : Rc := ⟨-3, -3, 4, 4⟩
theorem XY.nil (R : Rc) : XY R [] := fun e h => by cases h
end Go.Proofs.YtepelndbbhdofaaGreatDoor
/- of: a made stroke with one field changed. -/
namespace Go.Proofs.YtepelndbbhdofaaGreatDoor
open Go.RowKit Go.Shelf Pl
set_option linter.unusedVariables false
set_option linter.unusedSimpArgs false
set_option maxRecDepth 20000
theorem qn.neT {α : Type} {k : Nat} {T ST : TypeId} {E : Elt α k T ST} {B b : Nat} {v : Value} {ls : List α} {t : TypeId} {cs : Array Value} {w : World} (h : qn E B v ls w) (ha : AtB t w b cs) (ht : t ≠ T) : ∀ g, v.ownBlock = some g → g ≠ b := fun g hg e => by
 obtain ⟨cur, hc⟩ := h.block hg
 subst e
 have := (show w.heap[g]? = _ from hc).symm.trans ha
 injection this with this
 injection this with _ this
 exact ht this.symm
def oIx (L : List Int) (val : Int) : Nat := (val % 65536 % (madeN L : Int)).toNat
def Q5 (n k : Nat) : List Sp := (List.range k).map fun j => ⟨((n + j : Nat) : Int), 0, 9⟩
def ofN (val : Int) : Nat := (64 + val % 2).toNat
def kT (l : List Sp) (k : Nat) : List Sp := l ++ Q5 l.length k
theorem Qf (l : List Sp) (k : Nat) : (kT l k).length = l.length + k := by unfold kT Q5; rw [List.length_append, List.length_map, List.length_range]
theorem Yg (l : List Sp) (k : Nat) : kT l (k + 1) = kT l k ++ [⟨((l.length + k : Nat) : Int), 0, 9⟩] := by
 unfold kT Q5
 rw [List.range_succ, List.map_append, List.append_assoc]
 rfl
/-- The stroke that 'of' returns. -/
def chS (s : Stk) (c : Int) (i : Nat) (val : Int) : Stk :=
 if c = 1 then { s with pts := s.pts.set i ⟨val, (pAt s.pts i).y, (pAt s.pts i).p⟩ }
 else if c = 2 then { s with pts := s.pts.set i ⟨(pAt s.pts i).x, val, (pAt s.pts i).p⟩ }
 else if c = 3 then { s with pts := s.pts.set i ⟨(pAt s.pts i).x, (pAt s.pts i).y, val⟩ }
 else if c = 4 then { s with rad := val }
 else if c = 5 then { s with spa := val }
 else if c = 6 then { s with pha := val }
 else if c = 7 then { s with pts := [] }
 else if c = 8 then { s with pts := kT s.pts (ofN val - s.pts.length) }
 else s
def ofS (L : List Int) (how val : Int) : Stk := chS (qv L) (how % 16) (oIx L val) val
theorem zbK (s : Stk) (c : Int) (i : Nat) (val : Int) (h : s.pts.length ≤ 6) : (chS s c i val).pts.length ≤ 65 := by
 have hn : ofN val ≤ 65 := by unfold ofN; omega
 unfold chS
 repeat' split
 all_goals try simp only [List.length_set, List.length_nil, Qf]
 all_goals omega
theorem zcj (L : List Int) (how val : Int) : (ofS L how val).pts.length ≤ 65 := zbK _ _ _ _ (by rw [yw]; exact (wL L).2)
def zeJ : Option Value → Nat
 | some (.slice _ n _) => n
 | _ => 0
set_option maxHeartbeats 8000000 in
theorem zcP (vL : Value) (L : List Int) (how val : Int) (S' : Stk) (w : World) (ls : RSE inE vL L w) (hn : L.length ≤ 17592186044416) (e : ofS L how val = S') : Calls Tryz.prog 14 #[.agg #[vL, .int .i64 how, .int .i64 val]] w fun e w' => ∃ v', e = .returned (.agg (stC v' S')) ∧ RSE spE v' S'.pts w' ∧ Below w.heap.size w w' := by
 have B := Below.refl w.heap.size w
 obtain ⟨aL, cL, rfl, hcL⟩ := ls.len
 have mb := wL L
 have HLL := Lib.hid (yw L)
 have mlen : (qv L).pts.length ≤ 6 := by rw [yw]; exact mb.2
 have mlen1 : 1 ≤ (qv L).pts.length := by rw [yw]; exact mb.1
 have hV : bits .and .i64 val 65535 = val % 65536 := yS val 16 65535 rfl (by decide)
 have hV1 : bits .and .i64 val 1 = val % 2 := yS val 1 1 rfl (by decide)
 have hC : bits .and .i64 how 15 = how % 16 := yS how 4 15 rfl (by decide)
 have HI := Lib.hid (show oIx L val = (val % 65536 % ((qv L).pts.length : Int)).toNat from by unfold oIx; rw [yw])
 have HE := Lib.hid (show chS (qv L) (how % 16) (oIx L val) val = S' from e)
 obtain ⟨i, hi⟩ : ∃ i, oIx L val = i := ⟨_, rfl⟩
 rw [hi] at HI HE
 have HMA := Lib.hid (fun w' (h : Below w.heap.size w w') => Z8 (.slice aL L.length cL) L w' (ls.below h) hn)
 clear hi ls e mb HLL
 obtain ⟨s, hs⟩ : ∃ s, qv L = s := ⟨_, rfl⟩
 rw [hs] at mlen mlen1 HI HE HMA
 clear hs
 obtain ⟨n, zk⟩ : ∃ n : Nat, s.pts.length = n := ⟨_, rfl⟩
 rw [zk] at mlen mlen1 HI HMA
 have HLN := Lib.hid zk
 clear zk
 have e0 : (n : Int) ≠ 0 := by omega
 have e00 : ((n : Int) == 0) = false := by simp; omega
 have t1 : Int.tmod (val % 65536) (n : Int) = (i : Int) := by
  rw [Int.tmod_eq_emod_of_nonneg (by omega), HI.out]; exact (Int.toNat_of_nonneg (Int.emod_nonneg _ e0)).symm
 have hin : i < n := by
  rw [HI.out]; have := Int.emod_lt_of_pos (val % 65536) (show (0 : Int) < n by omega); omega
 obtain ⟨C, hCC⟩ : ∃ C, how % 16 = C := ⟨_, rfl⟩
 rw [hCC] at hC HE
 have hC0 : 0 ≤ C ∧ C ≤ 15 := by omega
 clear hCC HI
 go_enter Tryz.func14, Tryz.ntmps14
 go_upto_region 0 with fail
 refine wp_region_lit ?_
 (refine zt (t := 24) rfl _ rfl _ rfl (alK B ?_); clear B; intro b_r1 wn zb zd r1 za zf zk B; simp only [zn])
 (refine zu (t := 30) rfl _ (zY _ _ rfl) (alK B ?_); clear B; intro b_r2 wn zb zd r2 za zf zk B; (try have zh := r1.lt); (try replace r1 := r1.below (za.mono zb)); simp only [zn])
 refine wpList_nil ?_
 have k1 : w.heap.size ≤ b_r1 := by omega
 have k2 : b_r1 < b_r2 := by have := r1.lt; omega
 have k3 := r2.lt
 go_upto_region 1 with fail
 obtain ⟨b0, hb0⟩ : ∃ n, n = wn.heap.size := ⟨_, rfl⟩
 have k4 : b_r2 < b0 := by omega
 have k5 : b_r1 < b0 := by omega
 have HB0 := Lib.hid hb0
 clear hb0
 refine wp_region_lit ?_
 refine chk 2 ?_
 refine clF (enters_of Tryz.func15 (by kernel_rfl) rfl) (c := HMA.out _ B) (h := ?_)
 rintro e wn ⟨a3, c3, rfl, od, za⟩
 have zf := B.size
 have zg := za.size
 replace B := B.trans (za.mono B.size)
 (try replace r1 := r1.below za)
 (try replace r2 := r2.below za)
 rw [← HB0.out] at od
 refine ⟨_, rfl, ?_⟩
 simp only [zn]
 (have _ := od; refine zu (t := 30) rfl _ (zY _ _ rfl) (alK B ?_); clear B; intro b_r3 wn zb zd r3 za zf zk B; replace od := od.below (za.mono zb); (try have zh := r1.lt); (try replace r1 := r1.below (za.mono zb)); (try have zh := r2.lt); (try replace r2 := r2.below (za.mono zb)); (try have zh := r3.lt); (try replace r3 := r3.below (za.mono zb)); simp only [zn])
 (refine zr (t := 30) rfl _ _ rfl _ rfl _ rfl r3 (by kernel_rfl) rfl (by simp [stC, Value.oneCell']) (stK B (by omega) ?_); have hnB := od.neT r3 (by decide); clear r3 B; intro wn r3 ze zf zg B; replace od := od.chgB ze hnB; clear hnB; (try replace r1 := r1.of_eq (ze.block _ r1.lt (by omega))); (try replace r2 := r2.of_eq (ze.block _ r2.lt (by omega))); simp only [zn])
 refine wpList_nil ?_
 clear HMA HB0
 go_upto_region 2 with fail
 refine wp_region_lit ?_
 refine chk 5 ?_
 refine zw (by first | rfl | simp [Region.wanted, yielded]) rfl Tryz.underlying26 rfl ?_
 simp only [zn]
 refine chk 2 ?_
 refine wpList_nil ?_
 go_upto_region 3 with fail
 refine wp_region_lit ?_
 refine chk 3 ?_
 refine wpList_nil ?_
 have hPn : n = s.pts.length := HLN.out.symm
 have hiP : i < s.pts.length := by omega
 have HPX : Hid (pAt s.pts i = ⟨(pAt s.pts i).x, (pAt s.pts i).y, (pAt s.pts i).p⟩) := Lib.hid rfl
 have pcx := od.rs
 have oin : ∃ g, a3 = some ⟨g, 0, none⟩ := by
  obtain ⟨_, h2⟩ := od; rcases h2 with ⟨e, _⟩ | ⟨g', cap, cur, e, _⟩
  ·injection e with e1 e2 _
   omega
  ·injection e with e1 _ _
   exact ⟨g', e1⟩
 obtain ⟨g, rfl⟩ := oin
 have hgb : b0 ≤ g := (World.ownsRow.lt od g rfl).1
 have hg3 : g ≠ b_r3 := od.neT r3 (by decide) g rfl
 clear pcx
 have qs : C = 1 ∨ C = 2 ∨ C = 3 ∨ C = 4 ∨ C = 5 ∨ C = 6 ∨ C = 7 ∨ C = 8 ∨ (C ≠ 1 ∧ C ≠ 2 ∧ C ≠ 3 ∧ C ≠ 4 ∧ C ≠ 5 ∧ C ≠ 6 ∧ C ≠ 7 ∧ C ≠ 8) := by omega
 rcases qs with hx | hx | hx | hx | hx | hx | hx | hx | hx
 ·have HS := Lib.hid (show S' = ⟨s.pts.set i ⟨val, (pAt s.pts i).y, (pAt s.pts i).p⟩, s.rad, s.spa, s.col, s.era, s.pha⟩ from by rw [← HE.out]; rw [hx]; simp [chS, HLN.out])
  have q1 : (C == 1) = true := by rw [hx]; rfl
  have p1 : decide (C = 1) = true := by rw [hx]; rfl
  have q2 : (C == 2) = false := by rw [hx]; rfl
  have p2 : decide (C = 2) = false := by rw [hx]; rfl
  have q3 : (C == 3) = false := by rw [hx]; rfl
  have p3 : decide (C = 3) = false := by rw [hx]; rfl
  have q4 : (C == 4) = false := by rw [hx]; rfl
  have p4 : decide (C = 4) = false := by rw [hx]; rfl
  have q5 : (C == 5) = false := by rw [hx]; rfl
  have p5 : decide (C = 5) = false := by rw [hx]; rfl
  have q6 : (C == 6) = false := by rw [hx]; rfl
  have p6 : decide (C = 6) = false := by rw [hx]; rfl
  have q7 : (C == 7) = false := by rw [hx]; rfl
  have p7 : decide (C = 7) = false := by rw [hx]; rfl
  have q8 : (C == 8) = false := by rw [hx]; rfl
  have p8 : decide (C = 8) = false := by rw [hx]; rfl
  clear HE hx hC0; go_upto_region 4 with fail
  refine wp_region_lit ?_; refine chk 2 ?_; refine wpList_nil ?_; go_upto_region 5 with fail
  refine wp_region_lit ?_; refine chk 7 ?_
  (refine kx rfl _ _ rfl _ _ rfl _ rfl od hPn i 0 hiP (by omega) (by omega) ⟨val, (pAt s.pts i).y, (pAt s.pts i).p⟩ (by rw [HPX.out]; rfl) ?_; clear od; intro wn od ze zg; have zf := B.size; replace zg := Nat.le_of_eq zg.symm; replace B := Chg.below B ze (by omega) B.size; (try replace r1 := r1.of_eq (ze.block _ r1.lt (by omega))); (try replace r2 := r2.of_eq (ze.block _ r2.lt (by omega))); (try replace r3 := r3.of_eq (ze.block _ r3.lt (by omega))); simp only [zn])
  refine wpList_nil ?_; go_upto_region 21 with fail
  refine wp_region_lit ?_; refine chk 1 ?_
  (refine zr (t := 30) rfl _ _ rfl _ rfl _ rfl r2 (by kernel_rfl) rfl (by simp [stC, Value.oneCell']) (stK B (by omega) ?_); clear r2 B; intro wn r2 ze zf zg B; replace od := od.chg ze (by omega); (try replace r1 := r1.of_eq (ze.block _ r1.lt (by omega))); (try replace r3 := r3.of_eq (ze.block _ r3.lt (by omega))); simp only [zn])
  refine wpList_nil ?_; first | (refine bodyPost_ret (zv (t := 30) rfl _ _ (b_r2) rfl r2 Tryz.isAgg30 (by kernel_rfl)) rfl ?_) | (go_step; refine bodyPost_ret (zv (t := 30) rfl _ _ (b_r2) rfl r2 Tryz.isAgg30 (by kernel_rfl)) rfl ?_) | (go_step; go_step; refine bodyPost_ret (zv (t := 30) rfl _ _ (b_r2) rfl r2 Tryz.isAgg30 (by kernel_rfl)) rfl ?_) | (go_step; go_step; go_step; refine bodyPost_ret (zv (t := 30) rfl _ _ (b_r2) rfl r2 Tryz.isAgg30 (by kernel_rfl)) rfl ?_) | (go_step; go_step; go_step; go_step; refine bodyPost_ret (zv (t := 30) rfl _ _ (b_r2) rfl r2 Tryz.isAgg30 (by kernel_rfl)) rfl ?_) | (go_step; go_step; go_step; go_step; go_step; refine bodyPost_ret (zv (t := 30) rfl _ _ (b_r2) rfl r2 Tryz.isAgg30 (by kernel_rfl)) rfl ?_)
  rw [HS.out]; exact ⟨_, rfl, od.rs, B⟩
 ·have HS := Lib.hid (show S' = ⟨s.pts.set i ⟨(pAt s.pts i).x, val, (pAt s.pts i).p⟩, s.rad, s.spa, s.col, s.era, s.pha⟩ from by rw [← HE.out]; rw [hx]; simp [chS, HLN.out])
  have q1 : (C == 1) = false := by rw [hx]; rfl
  have p1 : decide (C = 1) = false := by rw [hx]; rfl
  have q2 : (C == 2) = true := by rw [hx]; rfl
  have p2 : decide (C = 2) = true := by rw [hx]; rfl
  have q3 : (C == 3) = false := by rw [hx]; rfl
  have p3 : decide (C = 3) = false := by rw [hx]; rfl
  have q4 : (C == 4) = false := by rw [hx]; rfl
  have p4 : decide (C = 4) = false := by rw [hx]; rfl
  have q5 : (C == 5) = false := by rw [hx]; rfl
  have p5 : decide (C = 5) = false := by rw [hx]; rfl
  have q6 : (C == 6) = false := by rw [hx]; rfl
  have p6 : decide (C = 6) = false := by rw [hx]; rfl
  have q7 : (C == 7) = false := by rw [hx]; rfl
  have p7 : decide (C = 7) = false := by rw [hx]; rfl
  have q8 : (C == 8) = false := by rw [hx]; rfl
  have p8 : decide (C = 8) = false := by rw [hx]; rfl
  clear HE hx hC0; go_upto_region 4 with fail
  refine wp_region_lit ?_; refine chk 2 ?_; refine wpList_nil ?_; go_upto_region 6 with fail
  refine wp_region_lit ?_; refine chk 2 ?_; refine wpList_nil ?_; go_upto_region 7 with fail
  refine wp_region_lit ?_; refine chk 7 ?_
  (refine kx rfl _ _ rfl _ _ rfl _ rfl od hPn i 1 hiP (by omega) (by omega) ⟨(pAt s.pts i).x, val, (pAt s.pts i).p⟩ (by rw [HPX.out]; rfl) ?_; clear od; intro wn od ze zg; have zf := B.size; replace zg := Nat.le_of_eq zg.symm; replace B := Chg.below B ze (by omega) B.size; (try replace r1 := r1.of_eq (ze.block _ r1.lt (by omega))); (try replace r2 := r2.of_eq (ze.block _ r2.lt (by omega))); (try replace r3 := r3.of_eq (ze.block _ r3.lt (by omega))); simp only [zn])
  refine wpList_nil ?_; go_upto_region 21 with fail
  refine wp_region_lit ?_; refine chk 1 ?_
  (refine zr (t := 30) rfl _ _ rfl _ rfl _ rfl r2 (by kernel_rfl) rfl (by simp [stC, Value.oneCell']) (stK B (by omega) ?_); clear r2 B; intro wn r2 ze zf zg B; replace od := od.chg ze (by omega); (try replace r1 := r1.of_eq (ze.block _ r1.lt (by omega))); (try replace r3 := r3.of_eq (ze.block _ r3.lt (by omega))); simp only [zn])
  refine wpList_nil ?_; first | (refine bodyPost_ret (zv (t := 30) rfl _ _ (b_r2) rfl r2 Tryz.isAgg30 (by kernel_rfl)) rfl ?_) | (go_step; refine bodyPost_ret (zv (t := 30) rfl _ _ (b_r2) rfl r2 Tryz.isAgg30 (by kernel_rfl)) rfl ?_) | (go_step; go_step; refine bodyPost_ret (zv (t := 30) rfl _ _ (b_r2) rfl r2 Tryz.isAgg30 (by kernel_rfl)) rfl ?_) | (go_step; go_step; go_step; refine bodyPost_ret (zv (t := 30) rfl _ _ (b_r2) rfl r2 Tryz.isAgg30 (by kernel_rfl)) rfl ?_) | (go_step; go_step; go_step; go_step; refine bodyPost_ret (zv (t := 30) rfl _ _ (b_r2) rfl r2 Tryz.isAgg30 (by kernel_rfl)) rfl ?_) | (go_step; go_step; go_step; go_step; go_step; refine bodyPost_ret (zv (t := 30) rfl _ _ (b_r2) rfl r2 Tryz.isAgg30 (by kernel_rfl)) rfl ?_)
  rw [HS.out]; exact ⟨_, rfl, od.rs, B⟩
 ·have HS := Lib.hid (show S' = ⟨s.pts.set i ⟨(pAt s.pts i).x, (pAt s.pts i).y, val⟩, s.rad, s.spa, s.col, s.era, s.pha⟩ from by rw [← HE.out]; rw [hx]; simp [chS, HLN.out])
  have q1 : (C == 1) = false := by rw [hx]; rfl
  have p1 : decide (C = 1) = false := by rw [hx]; rfl
  have q2 : (C == 2) = false := by rw [hx]; rfl
  have p2 : decide (C = 2) = false := by rw [hx]; rfl
  have q3 : (C == 3) = true := by rw [hx]; rfl
  have p3 : decide (C = 3) = true := by rw [hx]; rfl
  have q4 : (C == 4) = false := by rw [hx]; rfl
  have p4 : decide (C = 4) = false := by rw [hx]; rfl
  have q5 : (C == 5) = false := by rw [hx]; rfl
  have p5 : decide (C = 5) = false := by rw [hx]; rfl
  have q6 : (C == 6) = false := by rw [hx]; rfl
  have p6 : decide (C = 6) = false := by rw [hx]; rfl
  have q7 : (C == 7) = false := by rw [hx]; rfl
  have p7 : decide (C = 7) = false := by rw [hx]; rfl
  have q8 : (C == 8) = false := by rw [hx]; rfl
  have p8 : decide (C = 8) = false := by rw [hx]; rfl
  clear HE hx hC0; go_upto_region 4 with fail
  refine wp_region_lit ?_; refine chk 2 ?_; refine wpList_nil ?_; go_upto_region 6 with fail
  refine wp_region_lit ?_; refine chk 2 ?_; refine wpList_nil ?_; go_upto_region 8 with fail
  refine wp_region_lit ?_; refine chk 2 ?_; refine wpList_nil ?_; go_upto_region 9 with fail
  refine wp_region_lit ?_; refine chk 7 ?_
  (refine kx rfl _ _ rfl _ _ rfl _ rfl od hPn i 2 hiP (by omega) (by omega) ⟨(pAt s.pts i).x, (pAt s.pts i).y, val⟩ (by rw [HPX.out]; rfl) ?_; clear od; intro wn od ze zg; have zf := B.size; replace zg := Nat.le_of_eq zg.symm; replace B := Chg.below B ze (by omega) B.size; (try replace r1 := r1.of_eq (ze.block _ r1.lt (by omega))); (try replace r2 := r2.of_eq (ze.block _ r2.lt (by omega))); (try replace r3 := r3.of_eq (ze.block _ r3.lt (by omega))); simp only [zn])
  refine wpList_nil ?_; go_upto_region 21 with fail
  refine wp_region_lit ?_; refine chk 1 ?_
  (refine zr (t := 30) rfl _ _ rfl _ rfl _ rfl r2 (by kernel_rfl) rfl (by simp [stC, Value.oneCell']) (stK B (by omega) ?_); clear r2 B; intro wn r2 ze zf zg B; replace od := od.chg ze (by omega); (try replace r1 := r1.of_eq (ze.block _ r1.lt (by omega))); (try replace r3 := r3.of_eq (ze.block _ r3.lt (by omega))); simp only [zn])
  refine wpList_nil ?_; first | (refine bodyPost_ret (zv (t := 30) rfl _ _ (b_r2) rfl r2 Tryz.isAgg30 (by kernel_rfl)) rfl ?_) | (go_step; refine bodyPost_ret (zv (t := 30) rfl _ _ (b_r2) rfl r2 Tryz.isAgg30 (by kernel_rfl)) rfl ?_) | (go_step; go_step; refine bodyPost_ret (zv (t := 30) rfl _ _ (b_r2) rfl r2 Tryz.isAgg30 (by kernel_rfl)) rfl ?_) | (go_step; go_step; go_step; refine bodyPost_ret (zv (t := 30) rfl _ _ (b_r2) rfl r2 Tryz.isAgg30 (by kernel_rfl)) rfl ?_) | (go_step; go_step; go_step; go_step; refine bodyPost_ret (zv (t := 30) rfl _ _ (b_r2) rfl r2 Tryz.isAgg30 (by kernel_rfl)) rfl ?_) | (go_step; go_step; go_step; go_step; go_step; refine bodyPost_ret (zv (t := 30) rfl _ _ (b_r2) rfl r2 Tryz.isAgg30 (by kernel_rfl)) rfl ?_)
  rw [HS.out]; exact ⟨_, rfl, od.rs, B⟩
 ·have HS := Lib.hid (show S' = ⟨s.pts, val, s.spa, s.col, s.era, s.pha⟩ from by rw [← HE.out]; rw [hx]; simp [chS, HLN.out])
  have q1 : (C == 1) = false := by rw [hx]; rfl
  have p1 : decide (C = 1) = false := by rw [hx]; rfl
  have q2 : (C == 2) = false := by rw [hx]; rfl
  have p2 : decide (C = 2) = false := by rw [hx]; rfl
  have q3 : (C == 3) = false := by rw [hx]; rfl
  have p3 : decide (C = 3) = false := by rw [hx]; rfl
  have q4 : (C == 4) = true := by rw [hx]; rfl
  have p4 : decide (C = 4) = true := by rw [hx]; rfl
  have q5 : (C == 5) = false := by rw [hx]; rfl
  have p5 : decide (C = 5) = false := by rw [hx]; rfl
  have q6 : (C == 6) = false := by rw [hx]; rfl
  have p6 : decide (C = 6) = false := by rw [hx]; rfl
  have q7 : (C == 7) = false := by rw [hx]; rfl
  have p7 : decide (C = 7) = false := by rw [hx]; rfl
  have q8 : (C == 8) = false := by rw [hx]; rfl
  have p8 : decide (C = 8) = false := by rw [hx]; rfl
  clear HE hx hC0; go_upto_region 4 with fail
  refine wp_region_lit ?_; refine chk 2 ?_; refine wpList_nil ?_; go_upto_region 6 with fail
  refine wp_region_lit ?_; refine chk 2 ?_; refine wpList_nil ?_; go_upto_region 8 with fail
  refine wp_region_lit ?_; refine chk 2 ?_; refine wpList_nil ?_; go_upto_region 10 with fail
  refine wp_region_lit ?_; refine chk 2 ?_; refine wpList_nil ?_; go_upto_region 11 with fail
  refine wp_region_lit ?_; refine chk 3 ?_
  (refine js (t := 30) rfl _ _ rfl _ 1 rfl _ rfl r3 rfl (stK B (by omega) ?_); have hnB := od.neT r3 (by decide); clear r3 B; intro wn r3 ze zf zg B; replace od := od.chgB ze hnB; clear hnB; (try replace r1 := r1.of_eq (ze.block _ r1.lt (by omega))); (try replace r2 := r2.of_eq (ze.block _ r2.lt (by omega))); simp only [zn])
  refine wpList_nil ?_; replace r3 : AtB 30 _ b_r3 (stC (.slice (some ⟨g, 0, none⟩) n c3) ⟨s.pts, val, s.spa, s.col, s.era, s.pha⟩) := r3; go_upto_region 21 with fail
  refine wp_region_lit ?_; refine chk 1 ?_
  (refine zr (t := 30) rfl _ _ rfl _ rfl _ rfl r2 (by kernel_rfl) rfl (by simp [stC, Value.oneCell']) (stK B (by omega) ?_); clear r2 B; intro wn r2 ze zf zg B; replace od := od.chg ze (by omega); (try replace r1 := r1.of_eq (ze.block _ r1.lt (by omega))); (try replace r3 := r3.of_eq (ze.block _ r3.lt (by omega))); simp only [zn])
  refine wpList_nil ?_; first | (refine bodyPost_ret (zv (t := 30) rfl _ _ (b_r2) rfl r2 Tryz.isAgg30 (by kernel_rfl)) rfl ?_) | (go_step; refine bodyPost_ret (zv (t := 30) rfl _ _ (b_r2) rfl r2 Tryz.isAgg30 (by kernel_rfl)) rfl ?_) | (go_step; go_step; refine bodyPost_ret (zv (t := 30) rfl _ _ (b_r2) rfl r2 Tryz.isAgg30 (by kernel_rfl)) rfl ?_) | (go_step; go_step; go_step; refine bodyPost_ret (zv (t := 30) rfl _ _ (b_r2) rfl r2 Tryz.isAgg30 (by kernel_rfl)) rfl ?_) | (go_step; go_step; go_step; go_step; refine bodyPost_ret (zv (t := 30) rfl _ _ (b_r2) rfl r2 Tryz.isAgg30 (by kernel_rfl)) rfl ?_) | (go_step; go_step; go_step; go_step; go_step; refine bodyPost_ret (zv (t := 30) rfl _ _ (b_r2) rfl r2 Tryz.isAgg30 (by kernel_rfl)) rfl ?_)
  rw [HS.out]; exact ⟨_, rfl, od.rs, B⟩
 ·have HS := Lib.hid (show S' = ⟨s.pts, s.rad, val, s.col, s.era, s.pha⟩ from by rw [← HE.out]; rw [hx]; simp [chS, HLN.out])
  have q1 : (C == 1) = false := by rw [hx]; rfl
  have p1 : decide (C = 1) = false := by rw [hx]; rfl
  have q2 : (C == 2) = false := by rw [hx]; rfl
  have p2 : decide (C = 2) = false := by rw [hx]; rfl
  have q3 : (C == 3) = false := by rw [hx]; rfl
  have p3 : decide (C = 3) = false := by rw [hx]; rfl
  have q4 : (C == 4) = false := by rw [hx]; rfl
  have p4 : decide (C = 4) = false := by rw [hx]; rfl
  have q5 : (C == 5) = true := by rw [hx]; rfl
  have p5 : decide (C = 5) = true := by rw [hx]; rfl
  have q6 : (C == 6) = false := by rw [hx]; rfl
  have p6 : decide (C = 6) = false := by rw [hx]; rfl
  have q7 : (C == 7) = false := by rw [hx]; rfl
  have p7 : decide (C = 7) = false := by rw [hx]; rfl
  have q8 : (C == 8) = false := by rw [hx]; rfl
  have p8 : decide (C = 8) = false := by rw [hx]; rfl
  clear HE hx hC0; go_upto_region 4 with fail
  refine wp_region_lit ?_; refine chk 2 ?_; refine wpList_nil ?_; go_upto_region 6 with fail
  refine wp_region_lit ?_; refine chk 2 ?_; refine wpList_nil ?_; go_upto_region 8 with fail
  refine wp_region_lit ?_; refine chk 2 ?_; refine wpList_nil ?_; go_upto_region 10 with fail
  refine wp_region_lit ?_; refine chk 2 ?_; refine wpList_nil ?_; go_upto_region 12 with fail
  refine wp_region_lit ?_; refine chk 2 ?_; refine wpList_nil ?_; go_upto_region 13 with fail
  refine wp_region_lit ?_; refine chk 3 ?_
  (refine js (t := 30) rfl _ _ rfl _ 2 rfl _ rfl r3 rfl (stK B (by omega) ?_); have hnB := od.neT r3 (by decide); clear r3 B; intro wn r3 ze zf zg B; replace od := od.chgB ze hnB; clear hnB; (try replace r1 := r1.of_eq (ze.block _ r1.lt (by omega))); (try replace r2 := r2.of_eq (ze.block _ r2.lt (by omega))); simp only [zn])
  refine wpList_nil ?_; replace r3 : AtB 30 _ b_r3 (stC (.slice (some ⟨g, 0, none⟩) n c3) ⟨s.pts, s.rad, val, s.col, s.era, s.pha⟩) := r3; go_upto_region 21 with fail
  refine wp_region_lit ?_; refine chk 1 ?_
  (refine zr (t := 30) rfl _ _ rfl _ rfl _ rfl r2 (by kernel_rfl) rfl (by simp [stC, Value.oneCell']) (stK B (by omega) ?_); clear r2 B; intro wn r2 ze zf zg B; replace od := od.chg ze (by omega); (try replace r1 := r1.of_eq (ze.block _ r1.lt (by omega))); (try replace r3 := r3.of_eq (ze.block _ r3.lt (by omega))); simp only [zn])
  refine wpList_nil ?_; first | (refine bodyPost_ret (zv (t := 30) rfl _ _ (b_r2) rfl r2 Tryz.isAgg30 (by kernel_rfl)) rfl ?_) | (go_step; refine bodyPost_ret (zv (t := 30) rfl _ _ (b_r2) rfl r2 Tryz.isAgg30 (by kernel_rfl)) rfl ?_) | (go_step; go_step; refine bodyPost_ret (zv (t := 30) rfl _ _ (b_r2) rfl r2 Tryz.isAgg30 (by kernel_rfl)) rfl ?_) | (go_step; go_step; go_step; refine bodyPost_ret (zv (t := 30) rfl _ _ (b_r2) rfl r2 Tryz.isAgg30 (by kernel_rfl)) rfl ?_) | (go_step; go_step; go_step; go_step; refine bodyPost_ret (zv (t := 30) rfl _ _ (b_r2) rfl r2 Tryz.isAgg30 (by kernel_rfl)) rfl ?_) | (go_step; go_step; go_step; go_step; go_step; refine bodyPost_ret (zv (t := 30) rfl _ _ (b_r2) rfl r2 Tryz.isAgg30 (by kernel_rfl)) rfl ?_)
  rw [HS.out]; exact ⟨_, rfl, od.rs, B⟩
 ·have HS := Lib.hid (show S' = ⟨s.pts, s.rad, s.spa, s.col, s.era, val⟩ from by rw [← HE.out]; rw [hx]; simp [chS, HLN.out])
  have q1 : (C == 1) = false := by rw [hx]; rfl
  have p1 : decide (C = 1) = false := by rw [hx]; rfl
  have q2 : (C == 2) = false := by rw [hx]; rfl
  have p2 : decide (C = 2) = false := by rw [hx]; rfl
  have q3 : (C == 3) = false := by rw [hx]; rfl
  have p3 : decide (C = 3) = false := by rw [hx]; rfl
  have q4 : (C == 4) = false := by rw [hx]; rfl
  have p4 : decide (C = 4) = false := by rw [hx]; rfl
  have q5 : (C == 5) = false := by rw [hx]; rfl
  have p5 : decide (C = 5) = false := by rw [hx]; rfl
  have q6 : (C == 6) = true := by rw [hx]; rfl
  have p6 : decide (C = 6) = true := by rw [hx]; rfl
  have q7 : (C == 7) = false := by rw [hx]; rfl
  have p7 : decide (C = 7) = false := by rw [hx]; rfl
  have q8 : (C == 8) = false := by rw [hx]; rfl
  have p8 : decide (C = 8) = false := by rw [hx]; rfl
  clear HE hx hC0; go_upto_region 4 with fail
  refine wp_region_lit ?_; refine chk 2 ?_; refine wpList_nil ?_; go_upto_region 6 with fail
  refine wp_region_lit ?_; refine chk 2 ?_; refine wpList_nil ?_; go_upto_region 8 with fail
  refine wp_region_lit ?_; refine chk 2 ?_; refine wpList_nil ?_; go_upto_region 10 with fail
  refine wp_region_lit ?_; refine chk 2 ?_; refine wpList_nil ?_; go_upto_region 12 with fail
  refine wp_region_lit ?_; refine chk 2 ?_; refine wpList_nil ?_; go_upto_region 14 with fail
  refine wp_region_lit ?_; refine chk 2 ?_; refine wpList_nil ?_; go_upto_region 15 with fail
  refine wp_region_lit ?_; refine chk 3 ?_
  (refine js (t := 30) rfl _ _ rfl _ 8 rfl _ rfl r3 rfl (stK B (by omega) ?_); have hnB := od.neT r3 (by decide); clear r3 B; intro wn r3 ze zf zg B; replace od := od.chgB ze hnB; clear hnB; (try replace r1 := r1.of_eq (ze.block _ r1.lt (by omega))); (try replace r2 := r2.of_eq (ze.block _ r2.lt (by omega))); simp only [zn])
  refine wpList_nil ?_; replace r3 : AtB 30 _ b_r3 (stC (.slice (some ⟨g, 0, none⟩) n c3) ⟨s.pts, s.rad, s.spa, s.col, s.era, val⟩) := r3; go_upto_region 21 with fail
  refine wp_region_lit ?_; refine chk 1 ?_
  (refine zr (t := 30) rfl _ _ rfl _ rfl _ rfl r2 (by kernel_rfl) rfl (by simp [stC, Value.oneCell']) (stK B (by omega) ?_); clear r2 B; intro wn r2 ze zf zg B; replace od := od.chg ze (by omega); (try replace r1 := r1.of_eq (ze.block _ r1.lt (by omega))); (try replace r3 := r3.of_eq (ze.block _ r3.lt (by omega))); simp only [zn])
  refine wpList_nil ?_; first | (refine bodyPost_ret (zv (t := 30) rfl _ _ (b_r2) rfl r2 Tryz.isAgg30 (by kernel_rfl)) rfl ?_) | (go_step; refine bodyPost_ret (zv (t := 30) rfl _ _ (b_r2) rfl r2 Tryz.isAgg30 (by kernel_rfl)) rfl ?_) | (go_step; go_step; refine bodyPost_ret (zv (t := 30) rfl _ _ (b_r2) rfl r2 Tryz.isAgg30 (by kernel_rfl)) rfl ?_) | (go_step; go_step; go_step; refine bodyPost_ret (zv (t := 30) rfl _ _ (b_r2) rfl r2 Tryz.isAgg30 (by kernel_rfl)) rfl ?_) | (go_step; go_step; go_step; go_step; refine bodyPost_ret (zv (t := 30) rfl _ _ (b_r2) rfl r2 Tryz.isAgg30 (by kernel_rfl)) rfl ?_) | (go_step; go_step; go_step; go_step; go_step; refine bodyPost_ret (zv (t := 30) rfl _ _ (b_r2) rfl r2 Tryz.isAgg30 (by kernel_rfl)) rfl ?_)
  rw [HS.out]; exact ⟨_, rfl, od.rs, B⟩
 ·have HS := Lib.hid (show S' = ⟨[], s.rad, s.spa, s.col, s.era, s.pha⟩ from by rw [← HE.out]; rw [hx]; simp [chS, HLN.out])
  have q1 : (C == 1) = false := by rw [hx]; rfl
  have p1 : decide (C = 1) = false := by rw [hx]; rfl
  have q2 : (C == 2) = false := by rw [hx]; rfl
  have p2 : decide (C = 2) = false := by rw [hx]; rfl
  have q3 : (C == 3) = false := by rw [hx]; rfl
  have p3 : decide (C = 3) = false := by rw [hx]; rfl
  have q4 : (C == 4) = false := by rw [hx]; rfl
  have p4 : decide (C = 4) = false := by rw [hx]; rfl
  have q5 : (C == 5) = false := by rw [hx]; rfl
  have p5 : decide (C = 5) = false := by rw [hx]; rfl
  have q6 : (C == 6) = false := by rw [hx]; rfl
  have p6 : decide (C = 6) = false := by rw [hx]; rfl
  have q7 : (C == 7) = true := by rw [hx]; rfl
  have p7 : decide (C = 7) = true := by rw [hx]; rfl
  have q8 : (C == 8) = false := by rw [hx]; rfl
  have p8 : decide (C = 8) = false := by rw [hx]; rfl
  clear HE hx hC0; go_upto_region 4 with fail
  refine wp_region_lit ?_; refine chk 2 ?_; refine wpList_nil ?_; go_upto_region 6 with fail
  refine wp_region_lit ?_; refine chk 2 ?_; refine wpList_nil ?_; go_upto_region 8 with fail
  refine wp_region_lit ?_; refine chk 2 ?_; refine wpList_nil ?_; go_upto_region 10 with fail
  refine wp_region_lit ?_; refine chk 2 ?_; refine wpList_nil ?_; go_upto_region 12 with fail
  refine wp_region_lit ?_; refine chk 2 ?_; refine wpList_nil ?_; go_upto_region 14 with fail
  refine wp_region_lit ?_; refine chk 2 ?_; refine wpList_nil ?_; go_upto_region 16 with fail
  refine wp_region_lit ?_; refine chk 2 ?_; refine wpList_nil ?_; go_upto_region 17 with fail
  refine wp_region_lit ?_; refine chk 1 ?_
  (refine xp (t := 30) rfl _ _ rfl _ 0 rfl _ _ _ rfl r3 rfl (stK B (by omega) ?_); have hnB := od.neT r3 (by decide); clear r3 B; intro wn r3 ze zf zg B; replace od := od.chgB ze hnB; clear hnB; (try replace r1 := r1.of_eq (ze.block _ r1.lt (by omega))); (try replace r2 := r2.of_eq (ze.block _ r2.lt (by omega))); simp only [zn])
  refine wpList_nil ?_; replace r3 : AtB 30 _ b_r3 (stC (.slice none 0 0) ⟨[], s.rad, s.spa, s.col, s.era, s.pha⟩) := r3; go_upto_region 21 with fail
  refine wp_region_lit ?_; refine chk 1 ?_
  (refine zr (t := 30) rfl _ _ rfl _ rfl _ rfl r2 (by kernel_rfl) rfl (by simp [stC, Value.oneCell']) (stK B (by omega) ?_); clear r2 B; intro wn r2 ze zf zg B; replace od := od.chg ze (by omega); (try replace r1 := r1.of_eq (ze.block _ r1.lt (by omega))); (try replace r3 := r3.of_eq (ze.block _ r3.lt (by omega))); simp only [zn])
  refine wpList_nil ?_; first | (refine bodyPost_ret (zv (t := 30) rfl _ _ (b_r2) rfl r2 Tryz.isAgg30 (by kernel_rfl)) rfl ?_) | (go_step; refine bodyPost_ret (zv (t := 30) rfl _ _ (b_r2) rfl r2 Tryz.isAgg30 (by kernel_rfl)) rfl ?_) | (go_step; go_step; refine bodyPost_ret (zv (t := 30) rfl _ _ (b_r2) rfl r2 Tryz.isAgg30 (by kernel_rfl)) rfl ?_) | (go_step; go_step; go_step; refine bodyPost_ret (zv (t := 30) rfl _ _ (b_r2) rfl r2 Tryz.isAgg30 (by kernel_rfl)) rfl ?_) | (go_step; go_step; go_step; go_step; refine bodyPost_ret (zv (t := 30) rfl _ _ (b_r2) rfl r2 Tryz.isAgg30 (by kernel_rfl)) rfl ?_) | (go_step; go_step; go_step; go_step; go_step; refine bodyPost_ret (zv (t := 30) rfl _ _ (b_r2) rfl r2 Tryz.isAgg30 (by kernel_rfl)) rfl ?_)
  rw [HS.out]; exact ⟨_, rfl, (qn.nil (E := spE) 0 _).rs, B⟩
 ·have HS := Lib.hid (show S' = ⟨kT s.pts (ofN val - n), s.rad, s.spa, s.col, s.era, s.pha⟩ from by rw [← HE.out]; rw [hx]; simp [chS, HLN.out])
  have q1 : (C == 1) = false := by rw [hx]; rfl
  have p1 : decide (C = 1) = false := by rw [hx]; rfl
  have q2 : (C == 2) = false := by rw [hx]; rfl
  have p2 : decide (C = 2) = false := by rw [hx]; rfl
  have q3 : (C == 3) = false := by rw [hx]; rfl
  have p3 : decide (C = 3) = false := by rw [hx]; rfl
  have q4 : (C == 4) = false := by rw [hx]; rfl
  have p4 : decide (C = 4) = false := by rw [hx]; rfl
  have q5 : (C == 5) = false := by rw [hx]; rfl
  have p5 : decide (C = 5) = false := by rw [hx]; rfl
  have q6 : (C == 6) = false := by rw [hx]; rfl
  have p6 : decide (C = 6) = false := by rw [hx]; rfl
  have q7 : (C == 7) = false := by rw [hx]; rfl
  have p7 : decide (C = 7) = false := by rw [hx]; rfl
  have q8 : (C == 8) = true := by rw [hx]; rfl
  have p8 : decide (C = 8) = true := by rw [hx]; rfl
  clear HE hx hC0; go_upto_region 4 with fail
  refine wp_region_lit ?_; refine chk 2 ?_; refine wpList_nil ?_; go_upto_region 6 with fail
  refine wp_region_lit ?_; refine chk 2 ?_; refine wpList_nil ?_; go_upto_region 8 with fail
  refine wp_region_lit ?_; refine chk 2 ?_; refine wpList_nil ?_; go_upto_region 10 with fail
  refine wp_region_lit ?_; refine chk 2 ?_; refine wpList_nil ?_; go_upto_region 12 with fail
  refine wp_region_lit ?_; refine chk 2 ?_; refine wpList_nil ?_; go_upto_region 14 with fail
  refine wp_region_lit ?_; refine chk 2 ?_; refine wpList_nil ?_; go_upto_region 16 with fail
  refine wp_region_lit ?_; refine chk 2 ?_; refine wpList_nil ?_; go_upto_region 18 with fail
  refine wp_region_lit ?_; refine chk 2 ?_; refine wpList_nil ?_; have hT : (ofN val : Int) = 64 + val % 2 := by unfold ofN; omega
  have HT := Lib.hid hT; obtain ⟨T, hTT⟩ : ∃ T, ofN val = T := ⟨_, rfl⟩; rw [hTT] at HT HS; clear hT hTT; have hTb : 64 ≤ T ∧ T ≤ 65 := by have := HT.out; omega
  have k6 : b0 ≤ wn.heap.size := by have := (World.ownsRow.lt od g rfl).2; omega
  clear q1 q2 q3 q4 q5 q6 q7 q8 p1 p2 p3 p4 p5 p6 p7 p8 hg3 hgb; go_wp2; go_loopw [] (fun wr => ∃ (k m cp : Nat) (ad : Option Addr) (P : List Sp), Hid (m = n + k) ∧ m ≤ T ∧ Hid (kT s.pts k = P) ∧ Below w.heap.size w wr ∧ b0 ≤ wr.heap.size ∧ AtB 24 wr b_r1 #[.slice aL L.length cL, .int .i64 how, .int .i64 val] ∧ AtB 30 wr b_r2 #[.slice none 0 0, .int .i64 0, .int .i64 0, .int .u8 0, .int .u8 0, .int .u8 0, .int .u8 0, .bool false, .int .i64 0] ∧ AtB 30 wr b_r3 (stC (.slice ad m cp) s) ∧ qn spE b0 (.slice ad m cp) P wr) (fun wr => T - zeJ (wr.cell? ⟨b_r3, 0, none⟩))
  case atStart => exact ⟨0, n, c3, _, s.pts, Lib.hid (by omega), by omega, Lib.hid (by simp [kT, Q5]), B, k6, r1, r2, r3, od⟩
  case round =>
   clear B r1 r2 r3 od k6; obtain ⟨k, m, cp, ad, P, Hm, hmT, HP, B, k6, r1, r2, r3, od⟩ := hrel; have hmP : P.length = m := by rw [← HP.out, Qf, Hm.out, HLN.out]
   have hPm := Lib.hid (show m = P.length from hmP.symm); have HPM := Lib.hid (show (P ++ [(⟨(m : Int), 0, 9⟩ : Sp)]).length = m + 1 from by rw [List.length_append, hmP]; rfl)
   have hPlen : P.length ≤ 65 := by omega
   have HOLD := Lib.hid (KI r3); clear hmP; by_cases zh : m < T
   ·have hmb : (m : Int) < 64 + val % 2 := by have := HT.out; omega
    have q1 : decide ((m : Int) < 64 + val % 2) = true := decide_eq_true hmb; have vb : 0 ≤ val % 2 ∧ val % 2 ≤ 1 := by omega
    have HNX := Lib.hid (show kT s.pts (k + 1) = P ++ [⟨(m : Int), 0, 9⟩] from by rw [Yg, HP.out, HLN.out, ← Hm.out]); go_upto_region 19 with fail
    refine wp_region_lit ?_; refine chk 2 ?_
    refine zw (by first | rfl | simp [Region.wanted, yielded]) rfl Tryz.underlying26 rfl ?_; simp only [zn]; refine chk 5 ?_
    refine wpList_nil ?_; go_upto_region 20 with fail
    refine wp_region_lit ?_; refine chk 4 ?_
    refine zw (by first | rfl | simp [Region.wanted, yielded]) rfl Tryz.underlying26 rfl ?_; simp only [zn]
    (refine qe rfl (.agg #[.int .i64 (m : Int), .int .i64 0, .int .i64 9]) (by first | rfl | kernel_rfl | simp [go_sem, Act.eval]) ?_; simp only [zn])
    (refine vh (E := spE) rfl _ rfl (⟨(m : Int), 0, 9⟩) rfl (by omega) (alK B ?_); clear B; intro b_s79 wn zb zd s79 za zf zk B; replace od := od.below (za.mono zb); (try have zh := r1.lt); (try replace r1 := r1.below (za.mono zb)); (try have zh := r2.lt); (try replace r2 := r2.below (za.mono zb)); (try have zh := r3.lt); (try replace r3 := r3.below (za.mono zb)); simp only [zn])
    (refine vf rfl _ _ rfl _ _ rfl rfl od (RSE.one s79) (by simp only [List.length_cons, List.length_nil]; omega) (by omega) ?_; intro v_od wn ht hg; have zf := B.size; have hbz := hg.size; replace B := yR B zf hg (fun r e => by have := (World.ownsRow.lt od r e).1; omega); replace r1 := r1.grown hg (fun e => od.neT r1 (by decide) _ e rfl); replace r2 := r2.grown hg (fun e => od.neT r2 (by decide) _ e rfl); replace r3 := r3.grown hg (fun e => od.neT r3 (by decide) _ e rfl); clear od s79 hg; have od := ht; clear ht; obtain ⟨a_od, c_od, hv, hco⟩ := od.len; rw [HPM.out] at hv; subst hv; simp only [zn])
    refine chk 1 ?_
    (refine xp (t := 30) rfl _ _ rfl _ 0 rfl _ _ _ rfl r3 rfl (stK B (by omega) ?_); have hnB := od.neT r3 (by decide); clear r3 B; intro wn r3 ze zf zg B; replace od := od.chgB ze hnB; clear hnB; (try replace r1 := r1.of_eq (ze.block _ r1.lt (by omega))); (try replace r2 := r2.of_eq (ze.block _ r2.lt (by omega))); simp only [zn])
    refine wpList_nil ?_; replace r3 : AtB 30 _ b_r3 (stC (.slice a_od (m + 1) c_od) s) := r3; have HNEW := Lib.hid (KI r3); go_wp2; go_roundw
    case rel => exact ⟨k + 1, m + 1, _, _, P ++ [⟨(m : Int), 0, 9⟩], Lib.hid (by rw [Hm.out]; omega), by omega, HNX, B, by omega, r1, r2, r3, od⟩
    case measure => rw [HOLD.out, HNEW.out]; show T - (m + 1) < T - m; omega
   ·have hmb : ¬ (m : Int) < 64 + val % 2 := by have := HT.out; omega
    have q1 : decide ((m : Int) < 64 + val % 2) = false := decide_eq_false hmb; have vb : 0 ≤ val % 2 ∧ val % 2 ≤ 1 := by omega
    have HFI := Lib.hid (show kT s.pts (T - n) = P from by rw [← HP.out]; congr 1; have := Hm.out; omega)
    go_upto_region 19 with fail
    refine wp_region_lit ?_; refine chk 2 ?_
    refine zw (by first | rfl | simp [Region.wanted, yielded]) rfl Tryz.underlying26 rfl ?_; simp only [zn]; refine chk 5 ?_
    refine wpList_nil ?_; go_upto_region 21 with fail
    refine wp_region_lit ?_; refine chk 1 ?_
    (refine zr (t := 30) rfl _ _ rfl _ rfl _ rfl r2 (by kernel_rfl) rfl (by simp [stC, Value.oneCell']) (stK B (by omega) ?_); clear r2 B; intro wn r2 ze zf zg B; replace od := od.chg ze (by omega); (try replace r3 := r3.of_eq (ze.block _ r3.lt (by omega))); simp only [zn])
    refine wpList_nil ?_; first | (refine bodyPost_ret (zv (t := 30) rfl _ _ (b_r2) rfl r2 Tryz.isAgg30 (by kernel_rfl)) rfl ?_) | (go_step; refine bodyPost_ret (zv (t := 30) rfl _ _ (b_r2) rfl r2 Tryz.isAgg30 (by kernel_rfl)) rfl ?_) | (go_step; go_step; refine bodyPost_ret (zv (t := 30) rfl _ _ (b_r2) rfl r2 Tryz.isAgg30 (by kernel_rfl)) rfl ?_) | (go_step; go_step; go_step; refine bodyPost_ret (zv (t := 30) rfl _ _ (b_r2) rfl r2 Tryz.isAgg30 (by kernel_rfl)) rfl ?_) | (go_step; go_step; go_step; go_step; refine bodyPost_ret (zv (t := 30) rfl _ _ (b_r2) rfl r2 Tryz.isAgg30 (by kernel_rfl)) rfl ?_) | (go_step; go_step; go_step; go_step; go_step; refine bodyPost_ret (zv (t := 30) rfl _ _ (b_r2) rfl r2 Tryz.isAgg30 (by kernel_rfl)) rfl ?_)
    rw [HS.out, HFI.out]; exact ⟨_, rfl, od.rs, B⟩
 ·have HS := Lib.hid (show S' = s from by rw [← HE.out]; obtain ⟨h1, h2, h3, h4, h5, h6, h7, h8⟩ := hx; simp [chS, h1, h2, h3, h4, h5, h6, h7, h8])
  have q1 : (C == 1) = false := by obtain ⟨h1, h2, h3, h4, h5, h6, h7, h8⟩ := hx; simp [h1]
  have p1 : decide (C = 1) = false := by obtain ⟨h1, h2, h3, h4, h5, h6, h7, h8⟩ := hx; simp [h1]
  have q2 : (C == 2) = false := by obtain ⟨h1, h2, h3, h4, h5, h6, h7, h8⟩ := hx; simp [h2]
  have p2 : decide (C = 2) = false := by obtain ⟨h1, h2, h3, h4, h5, h6, h7, h8⟩ := hx; simp [h2]
  have q3 : (C == 3) = false := by obtain ⟨h1, h2, h3, h4, h5, h6, h7, h8⟩ := hx; simp [h3]
  have p3 : decide (C = 3) = false := by obtain ⟨h1, h2, h3, h4, h5, h6, h7, h8⟩ := hx; simp [h3]
  have q4 : (C == 4) = false := by obtain ⟨h1, h2, h3, h4, h5, h6, h7, h8⟩ := hx; simp [h4]
  have p4 : decide (C = 4) = false := by obtain ⟨h1, h2, h3, h4, h5, h6, h7, h8⟩ := hx; simp [h4]
  have q5 : (C == 5) = false := by obtain ⟨h1, h2, h3, h4, h5, h6, h7, h8⟩ := hx; simp [h5]
  have p5 : decide (C = 5) = false := by obtain ⟨h1, h2, h3, h4, h5, h6, h7, h8⟩ := hx; simp [h5]
  have q6 : (C == 6) = false := by obtain ⟨h1, h2, h3, h4, h5, h6, h7, h8⟩ := hx; simp [h6]
  have p6 : decide (C = 6) = false := by obtain ⟨h1, h2, h3, h4, h5, h6, h7, h8⟩ := hx; simp [h6]
  have q7 : (C == 7) = false := by obtain ⟨h1, h2, h3, h4, h5, h6, h7, h8⟩ := hx; simp [h7]
  have p7 : decide (C = 7) = false := by obtain ⟨h1, h2, h3, h4, h5, h6, h7, h8⟩ := hx; simp [h7]
  have q8 : (C == 8) = false := by obtain ⟨h1, h2, h3, h4, h5, h6, h7, h8⟩ := hx; simp [h8]
  have p8 : decide (C = 8) = false := by obtain ⟨h1, h2, h3, h4, h5, h6, h7, h8⟩ := hx; simp [h8]
  clear HE hx hC0; go_upto_region 4 with fail
  refine wp_region_lit ?_; refine chk 2 ?_; refine wpList_nil ?_; go_upto_region 6 with fail
  refine wp_region_lit ?_; refine chk 2 ?_; refine wpList_nil ?_; go_upto_region 8 with fail
  refine wp_region_lit ?_; refine chk 2 ?_; refine wpList_nil ?_; go_upto_region 10 with fail
  refine wp_region_lit ?_; refine chk 2 ?_; refine wpList_nil ?_; go_upto_region 12 with fail
  refine wp_region_lit ?_; refine chk 2 ?_; refine wpList_nil ?_; go_upto_region 14 with fail
  refine wp_region_lit ?_; refine chk 2 ?_; refine wpList_nil ?_; go_upto_region 16 with fail
  refine wp_region_lit ?_; refine chk 2 ?_; refine wpList_nil ?_; go_upto_region 18 with fail
  refine wp_region_lit ?_; refine chk 2 ?_; refine wpList_nil ?_; go_upto_region 21 with fail
  refine wp_region_lit ?_; refine chk 1 ?_
  (refine zr (t := 30) rfl _ _ rfl _ rfl _ rfl r2 (by kernel_rfl) rfl (by simp [stC, Value.oneCell']) (stK B (by omega) ?_); clear r2 B; intro wn r2 ze zf zg B; replace od := od.chg ze (by omega); simp only [zn])
  refine wpList_nil ?_; first | (refine bodyPost_ret (zv (t := 30) rfl _ _ (b_r2) rfl r2 Tryz.isAgg30 (by kernel_rfl)) rfl ?_) | (go_step; refine bodyPost_ret (zv (t := 30) rfl _ _ (b_r2) rfl r2 Tryz.isAgg30 (by kernel_rfl)) rfl ?_) | (go_step; go_step; refine bodyPost_ret (zv (t := 30) rfl _ _ (b_r2) rfl r2 Tryz.isAgg30 (by kernel_rfl)) rfl ?_) | (go_step; go_step; go_step; refine bodyPost_ret (zv (t := 30) rfl _ _ (b_r2) rfl r2 Tryz.isAgg30 (by kernel_rfl)) rfl ?_) | (go_step; go_step; go_step; go_step; refine bodyPost_ret (zv (t := 30) rfl _ _ (b_r2) rfl r2 Tryz.isAgg30 (by kernel_rfl)) rfl ?_) | (go_step; go_step; go_step; go_step; go_step; refine bodyPost_ret (zv (t := 30) rfl _ _ (b_r2) rfl r2 Tryz.isAgg30 (by kernel_rfl)) rfl ?_)
  rw [HS.out]; exact ⟨_, rfl, od.rs, B⟩
theorem zbk (vL : Value) (L : List Int) (how val : Int) (S' : Stk) (w : World) (ls : RSE inE vL L w) (hn : L.length ≤ 17592186044416) (e : ofS L how val = S') : Calls Tryz.prog 14 #[.agg #[vL, .int .i64 how, .int .i64 val]] w fun e w' => ∃ a c, e = .returned (.agg (stC (.slice a S'.pts.length c) S')) ∧ RSE spE (.slice a S'.pts.length c) S'.pts w' ∧ Below w.heap.size w w' :=
 (zcP vL L how val S' w ls hn e).mono fun e w' ⟨v', h1, h2, h3⟩ => by
  obtain ⟨a, c, rfl, _⟩ := h2.len; exact ⟨_, _, h1, h2, h3⟩
end Go.Proofs.YtepelndbbhdofaaGreatDoor
/- Plain: an image of one raster pasted into another. -/
namespace Go.Proofs.YtepelndbbhdofaaGreatDoor
open Go.RowKit Pl
set_option linter.unusedVariables false
set_option linter.unusedSimpArgs false
end Go.Proofs.YtepelndbbhdofaaGreatDoor
/- Plain: what the laws on painted strokes (StrokeErase, StrokeHalves, StrokeArea) say. -/
namespace Go.Proofs.YtepelndbbhdofaaGreatDoor
open Go.RowKit Pl
set_option linter.unusedVariables false
set_option linter.unusedSimpArgs false
set_option maxRecDepth 20000
/-! ### StrokeErase -/
def zfl (s : Stk) : Stk := { s with era := true }
def zfv (s : Stk) : Stk := { s with era := false, col := ⟨s.col.r, s.col.g, s.col.b, 255⟩ }
/-! ### StrokeHalves -/
/-! ### StrokeArea -/
def zfD (p : Int × Int) : Rc := ⟨8 * p.1, 8 * p.2, 8 * p.1 + 8, 8 * p.2 + 8⟩
/- Plain: what StrokeShift says. -/
def zfh (X Y : Int) : Rc := ⟨(X - 11) / 8, (Y - 11) / 8, (X + 22) / 8 + 1, (Y + 22) / 8 + 1⟩
end Go.Proofs.YtepelndbbhdofaaGreatDoor
/- Changed of package raster. -/
namespace Go.Proofs.YtepelndbbhdofaaGreatDoor
open Go.RowKit Go.Shelf Pl
set_option linter.unusedVariables false
set_option linter.unusedSimpArgs false
set_option maxRecDepth 20000
def zfp : Value → Nat
 | .slice _ n _ => n
 | _ => 0
/- Contracts in the shape of chapter 14's laws: pixels by their parts, painting of made strokes. -/
end Go.Proofs.YtepelndbbhdofaaGreatDoor
/- Contracts for the laws on changed strokes: Split in both cases, lists of dabs known by a fact, appends onto an empty row. -/
namespace Go.Proofs.YtepelndbbhdofaaGreatDoor
open Go Go.RowKit Go.Shelf Pl
set_option linter.unusedVariables false
set_option linter.unusedSimpArgs false
set_option maxRecDepth 20000
section
variable {α : Type} {k : Nat} {T ST : TypeId} {E : Elt α k T ST} {o : Oper} {a : Act} {w : World} {Q : Exit → Act → World → Prop}
end
/-- A list of dabs handed back. -/
def JR (D : List Db) : jc := ⟨Option Addr × Nat, ⟨(none, 0)⟩, fun p => .slice p.1 D.length p.2, fun p w => RSE dbE (.slice p.1 D.length p.2) D w, fun _ _ _ hb h => h.below hb⟩
def ze2 (B : Nat) : jc := ⟨Nat, ⟨0⟩, fun b => .slice (some ⟨b, 0, none⟩) 0 0, fun b w => qn dbE B (.slice (some ⟨b, 0, none⟩) 0 0) [] w, fun _ _ _ hb h => h.below hb⟩
def zfk (B : Nat) (D : List Db) : jc := ⟨Option Addr × Nat, ⟨(none, 0)⟩, fun p => .slice p.1 D.length p.2, fun p w => qn dbE B (.slice p.1 D.length p.2) D w, fun _ _ _ hb h => h.below hb⟩
/-! ### Split -/
def zfB (s : Stk) (z : Int) : Stk × Stk × Int := if jj s = true ∧ 1 ≤ z ∧ z + 2 ≤ s.pts.length then (spA s z.toNat, spB s z.toNat, 0) else (Stk.none, Stk.none, 1)
section
variable {t : TypeId} {w : World} {b : Nat} {v u : Value} {s r : Stk} {n : Int}
end
end Go.Proofs.YtepelndbbhdofaaGreatDoor
namespace Go.Proofs.YtepelndbbhdofaaGreatDoor
open Go.RowKit Go.Shelf Pl
set_option linter.unusedVariables false
set_option linter.unusedSimpArgs false
set_option maxRecDepth 20000
set_option maxHeartbeats 8000000 in
theorem uO (vL : Value) (L : List Int) (how val : Int) (w : World) (lm : xf w) (hL : RSE inE vL L w) (hLn : L.length ≤ 17592186044416) : Calls Tryz.prog 3 #[.agg #[vL, .int .i64 how, .int .i64 val]] w fun e w' => e = .returned (.bool true) ∧ Below w.heap.size w w' := by
 have B := Below.refl w.heap.size w
 obtain ⟨aL, cL, rfl, hcL⟩ := hL.len
 have OF := Lib.hid (fun w' (h : Below w.heap.size w w') => zbk _ L how val _ w' (hL.below h) hLn rfl)
 have M1 := Lib.hid (fun w' (h : Below w.heap.size w w') => WD _ L w' (hL.below h) hLn)
 have SN := Lib.hid (show (ofS L how val).pts.length ≤ 17592186044416 from Nat.le_trans (zcj L how val) (by omega))
 have TN := Lib.hid (show (qv L).pts.length ≤ 17592186044416 from by rw [yw]; have := wL L; omega)
 have TV := Lib.hid (Yk L)
 obtain ⟨S, hS⟩ : ∃ S, ofS L how val = S := ⟨_, rfl⟩
 obtain ⟨T, hT⟩ : ∃ T, qv L = T := ⟨_, rfl⟩
 rw [hS] at OF SN
 rw [hT] at M1 TN TV
 clear hS hT hL
 obtain ⟨b, hb⟩ : ∃ b, jj S = b := ⟨_, rfl⟩
 obtain ⟨D, hD⟩ : ∃ D, xL S = D := ⟨_, rfl⟩
 obtain ⟨D2, hD2⟩ : ∃ D, xL T = D := ⟨_, rfl⟩
 obtain ⟨q, hq⟩ : ∃ q, YZ S = q := ⟨_, rfl⟩
 have HB := Lib.hid hb
 have HD := Lib.hid hD
 have HD2 := Lib.hid hD2
 have HQ := Lib.hid hq
 have DL := Lib.hid (show D.length ≤ 1000000 from by rw [← hD]; exact Nat.le_trans (vp S) (by omega))
 have DL2 := Lib.hid (show D2.length ≤ 1000000 from by rw [← hD2]; exact Nat.le_trans (vp T) (by omega))
 clear hb hD hD2 hq
 have q1 : (b == b) = true := by simp
 go_enter Tryz.func3, Tryz.ntmps3
 go_upto_region 0 with fail
 refine wp_region_lit ?_
 try simp only [zR]
 (refine zt (t := 24) rfl _ rfl _ rfl (alK B ?_); clear B; intro b_r1 wn zb zd r1 za zf zk B; (try have zh := lm.lt); (try replace lm := lm.below (za.mono zb)); simp only [zn])
 refine chk 1 ?_
 refine wpList_nil ?_
 go_upto_region 1 with fail
 refine wp_region_lit ?_
 try simp only [zR]
 refine clF (enters_of Tryz.func13 (by kernel_rfl) rfl) (c := za0 _ lm) (h := ?_)
 rintro e wn ⟨rfl, za⟩
 have zf := B.size
 have zg := za.size
 replace B := B.trans (za.mono B.size)
 (try replace lm := lm.below za)
 (try replace r1 := r1.below za)
 refine ⟨_, rfl, ?_⟩
 simp only [zn]
 refine chk 1 ?_
 refine wpList_nil ?_
 go_upto_region 2 with fail
 refine wp_region_lit ?_
 try simp only [zR]
 refine chk 1 ?_
 refine clF (enters_of Tryz.func14 (by kernel_rfl) rfl) (c := OF.out _ B) (h := ?_)
 rintro e wn ⟨a2, c2, rfl, rs, za⟩
 have zf := B.size
 have zg := za.size
 replace B := B.trans (za.mono B.size)
 (try replace lm := lm.below za)
 (try replace r1 := r1.below za)
 refine ⟨_, rfl, ?_⟩
 simp only [zn]
 obtain ⟨wK, hK⟩ : ∃ z, z = wn := ⟨_, rfl⟩
 subst hK
 have BG := B
 have hwsK := BG.size
 have B := Below.refl wK.heap.size wK
 have H_lm := Lib.hid lm
 have H_r1 := Lib.hid r1
 have H_rs := Lib.hid rs
 try simp only [zR]
 (refine zu (t := 30) rfl _ (zY _ _ rfl) (alK B ?_); clear B; intro b_r4 wn zb zd r4 za zf zk B; simp only [zn])
 (refine zr (t := 30) rfl _ _ rfl _ rfl _ rfl r4 (by kernel_rfl) rfl (by simp [stC, Value.oneCell']) (stK B (by omega) ?_); clear r4 B; intro wn r4 ze zf zg B; simp only [zn])
 refine wpList_nil ?_
 clear lm
 clear r1
 clear rs
 have lm := by first | exact H_lm.out.below B | exact H_lm.out.of_eq (B.block _ H_lm.out.lt)
 have r1 := by first | exact H_r1.out.below B | exact H_r1.out.of_eq (B.block _ H_r1.out.lt)
 have rs := by first | exact H_rs.out.below B | exact H_rs.out.of_eq (B.block _ H_rs.out.lt)
 clear H_lm
 clear H_r1
 clear H_rs
 have B0 := BG.trans (B.mono hwsK)
 clear B BG hwsK
 have B := B0
 clear B0
 go_upto_region 3 with fail
 refine wp_region_lit ?_
 try simp only [zR]
 refine chk 2 ?_
 refine clF (enters_of Tryz.func15 (by kernel_rfl) rfl) (c := M1.out _ B) (h := ?_)
 rintro e wn ⟨a3, c3, rfl, ts, za⟩
 have zf := B.size
 have zg := za.size
 replace B := B.trans (za.mono B.size)
 (try replace lm := lm.below za)
 (try replace r1 := r1.below za)
 (try replace rs := rs.below za)
 (try replace r4 := r4.below za)
 refine ⟨_, rfl, ?_⟩
 simp only [zn]
 obtain ⟨wK, hK⟩ : ∃ z, z = wn := ⟨_, rfl⟩
 subst hK
 have BG := B
 have hwsK := BG.size
 have B := Below.refl wK.heap.size wK
 have H_lm := Lib.hid lm
 have H_r1 := Lib.hid r1
 have H_rs := Lib.hid rs
 have H_r4 := Lib.hid r4
 have H_ts := Lib.hid ts
 try simp only [zR]
 (refine zu (t := 30) rfl _ (zY _ _ rfl) (alK B ?_); clear B; intro b_r5 wn zb zd r5 za zf zk B; simp only [zn])
 (refine zr (t := 30) rfl _ _ rfl _ rfl _ rfl r5 (by kernel_rfl) rfl (by simp [stC, Value.oneCell']) (stK B (by omega) ?_); clear r5 B; intro wn r5 ze zf zg B; simp only [zn])
 refine wpList_nil ?_
 clear lm
 clear r1
 clear rs
 clear r4
 clear ts
 have lm := by first | exact H_lm.out.below B | exact H_lm.out.of_eq (B.block _ H_lm.out.lt)
 have r1 := by first | exact H_r1.out.below B | exact H_r1.out.of_eq (B.block _ H_r1.out.lt)
 have rs := by first | exact H_rs.out.below B | exact H_rs.out.of_eq (B.block _ H_rs.out.lt)
 have r4 := by first | exact H_r4.out.below B | exact H_r4.out.of_eq (B.block _ H_r4.out.lt)
 have ts := by first | exact H_ts.out.below B | exact H_ts.out.of_eq (B.block _ H_ts.out.lt)
 clear H_lm
 clear H_r1
 clear H_rs
 clear H_r4
 clear H_ts
 have B0 := BG.trans (B.mono hwsK)
 clear B BG hwsK
 have B := B0
 clear B0
 clear r1 OF M1
 go_upto_region 4 with fail
 try simp only [zR]
 try have lx_lm := lm.lt
 try have lx_rs := rs.lt
 try have lx_r4 := r4.lt
 try have lx_ts := ts.lt
 try have lx_r5 := r5.lt
 refine zG 34 [(3, zC ?v1_3), (5, zC ?v1_5), (10, JR D), (12, JR D), (13, zC ?v1_13), (17, zC ?v1_17), (19, zC ?v1_19), (24, zC ?v1_24), (28, JR D2), (30, JR D2), (31, zC ?v1_31)] (by kernel_rfl) (by kernel_rfl) (by kernel_rfl) ?_
 rotate_left 7
 simp only [jm, Nat.reduceAdd]
 refine crq 3 ?_
 repeat (first | go_big_quiet_skip | (go_big_quiet_want; first | ((first | refine z8 rfl q q rfl rfl true (by simp) ?_ | refine qB ?_ | refine qC ?_); simp only [zn]; go_big_quiet_on) | (go_big_quiet_op; go_big_quiet_on)))
 refine wpQuiet_nil ?_
 refine zy (by rfl) ?hw1_3 ?_ ?_
 case hw1_3 => kernel_rfl
 ·intro wn za hE Kx hKx
  have zf := B.size; have zg := za.size; replace B := B.trans (za.mono B.size)
  (try replace lm := lm.below za)
  (try replace rs := rs.below za)
  (try replace r4 := r4.below za)
  (try replace ts := ts.below za)
  (try replace r5 := r5.below za)
  refine zB rfl (enters_of Tryz.func16 (by kernel_rfl) rfl) (by simp only [Act.eval, z6]; rfl) ?_
  refine (jx _ S b wn rs SN.out HB.out).mono ?_; rintro e wm ⟨rfl, zl⟩; refine ⟨_, rfl, ?_⟩; have hz := hKx () wm trivial zl
  dsimp only [zC] at hz
  exact hz
 rintro ⟨⟩
 dsimp only [zC]
 simp only [zn]
 refine crq 1 ?_
 repeat (first | go_big_quiet_skip | (go_big_quiet_want; first | ((first | refine z8 rfl q q rfl rfl true (by simp) ?_ | refine qB ?_ | refine qC ?_); simp only [zn]; go_big_quiet_on) | (go_big_quiet_op; go_big_quiet_on)))
 refine wpQuiet_nil ?_
 refine zy (by rfl) ?hw1_5 ?_ ?_
 case hw1_5 => kernel_rfl
 ·intro wn za hE Kx hKx
  have zf := B.size; have zg := za.size; replace B := B.trans (za.mono B.size)
  (try replace lm := lm.below za)
  (try replace rs := rs.below za)
  (try replace r4 := r4.below za)
  (try replace ts := ts.below za)
  (try replace r5 := r5.below za)
  refine zB rfl (enters_of Tryz.func17 (by kernel_rfl) rfl) (by simp only [Act.eval, z6]; rfl) ?_
  refine (ud _ S b wn rs SN.out HB.out).mono ?_; rintro e wm ⟨rfl, zl⟩; refine ⟨_, rfl, ?_⟩; have hz := hKx () wm trivial zl
  dsimp only [zC] at hz
  exact hz
 rintro ⟨⟩
 dsimp only [zC]
 simp only [zn]
 refine crq 4 ?_
 repeat (first | go_big_quiet_skip | (go_big_quiet_want; first | ((first | refine z8 rfl q q rfl rfl true (by simp) ?_ | refine qB ?_ | refine qC ?_); simp only [zn]; go_big_quiet_on) | (go_big_quiet_op; go_big_quiet_on)))
 refine wpQuiet_nil ?_
 refine zy (by rfl) ?hw1_10 ?_ ?_
 case hw1_10 => kernel_rfl
 ·intro wn za hE Kx hKx
  have zf := B.size; have zg := za.size; replace B := B.trans (za.mono B.size)
  (try replace lm := lm.below za)
  (try replace rs := rs.below za)
  (try replace r4 := r4.below za)
  (try replace ts := ts.below za)
  (try replace r5 := r5.below za)
  refine zB rfl (enters_of Tryz.func19 (by kernel_rfl) rfl) (by simp only [Act.eval, z6]; rfl) ?_
  refine (kO _ S D wn rs SN.out HD.out).mono ?_; rintro e wm ⟨a', c', rfl, odx, zl⟩; exact ⟨_, rfl, hKx (a', c') wm odx.rs zl⟩
 rintro ⟨a22, c22⟩
 dsimp only [zC, JR]
 simp only [zn]
 refine crq 1 ?_
 repeat (first | go_big_quiet_skip | (go_big_quiet_want; first | ((first | refine z8 rfl q q rfl rfl true (by simp) ?_ | refine qB ?_ | refine qC ?_); simp only [zn]; go_big_quiet_on) | (go_big_quiet_op; go_big_quiet_on)))
 refine wpQuiet_nil ?_
 refine zy (by rfl) ?hw1_12 ?_ ?_
 case hw1_12 => kernel_rfl
 ·intro wn za hE Kx hKx
  have zf := B.size; have zg := za.size; replace B := B.trans (za.mono B.size)
  (try replace lm := lm.below za)
  (try replace rs := rs.below za)
  (try replace r4 := r4.below za)
  (try replace ts := ts.below za)
  (try replace r5 := r5.below za)
  refine zB rfl (enters_of Tryz.func20 (by kernel_rfl) rfl) (by simp only [Act.eval, z6]; rfl) ?_
  refine (u9 _ S D wn rs SN.out HD.out).mono ?_; rintro e wm ⟨a', c', rfl, odx, zl⟩; exact ⟨_, rfl, hKx (a', c') wm odx.rs zl⟩
 rintro ⟨a24, c24⟩
 dsimp only [zC, JR]
 simp only [zn]
 refine zy (by rfl) ?hw1_13 ?_ ?_
 case hw1_13 => kernel_rfl
 ·intro wn za hE Kx hKx
  have zf := B.size; have zg := za.size; replace B := B.trans (za.mono B.size)
  (try replace lm := lm.below za)
  (try replace rs := rs.below za)
  (try replace r4 := r4.below za)
  (try replace ts := ts.below za)
  (try replace r5 := r5.below za)
  have n22 := hE 10 (by kernel_rfl); change RSE _ _ _ _ at n22
  have n24 := hE 12 (by kernel_rfl); change RSE _ _ _ _ at n24
  refine zB rfl (enters_of Tryz.func18 (by kernel_rfl) rfl) (by simp only [Act.eval, z6]; rfl) ?_
  refine (vT _ _ D D true wn n22 n24 DL.out DL.out (decide_eq_true rfl)).mono ?_; rintro e wm ⟨rfl, zl⟩; refine ⟨_, rfl, ?_⟩; have hz := hKx () wm trivial zl
  dsimp only [zC] at hz
  exact hz
 rintro ⟨⟩
 dsimp only [zC]
 simp only [zn]
 refine crq 3 ?_
 repeat (first | go_big_quiet_skip | (go_big_quiet_want; first | ((first | refine z8 rfl q q rfl rfl true (by simp) ?_ | refine qB ?_ | refine qC ?_); simp only [zn]; go_big_quiet_on) | (go_big_quiet_op; go_big_quiet_on)))
 refine wpQuiet_nil ?_
 refine zy (by rfl) ?hw1_17 ?_ ?_
 case hw1_17 => kernel_rfl
 ·intro wn za hE Kx hKx
  have zf := B.size; have zg := za.size; replace B := B.trans (za.mono B.size)
  (try replace lm := lm.below za)
  (try replace rs := rs.below za)
  (try replace r4 := r4.below za)
  (try replace ts := ts.below za)
  (try replace r5 := r5.below za)
  refine zB rfl (enters_of Tryz.func21 (by kernel_rfl) rfl) (by simp only [Act.eval, z6]; rfl) ?_
  refine (Jv _ S q wn lm rs SN.out HQ.out).mono ?_; rintro e wm ⟨rfl, zl⟩; refine ⟨_, rfl, ?_⟩; have hz := hKx () wm trivial zl
  dsimp only [zC] at hz
  exact hz
 rintro ⟨⟩
 dsimp only [zC]
 simp only [zn]
 refine crq 1 ?_
 repeat (first | go_big_quiet_skip | (go_big_quiet_want; first | ((first | refine z8 rfl q q rfl rfl true (by simp) ?_ | refine qB ?_ | refine qC ?_); simp only [zn]; go_big_quiet_on) | (go_big_quiet_op; go_big_quiet_on)))
 refine wpQuiet_nil ?_
 refine zy (by rfl) ?hw1_19 ?_ ?_
 case hw1_19 => kernel_rfl
 ·intro wn za hE Kx hKx
  have zf := B.size; have zg := za.size; replace B := B.trans (za.mono B.size)
  (try replace rs := rs.below za)
  (try replace r4 := r4.below za)
  (try replace ts := ts.below za)
  (try replace r5 := r5.below za)
  refine zB rfl (enters_of Tryz.func22 (by kernel_rfl) rfl) (by simp only [Act.eval, z6]; rfl) ?_
  refine (WA _ S q wn rs SN.out HQ.out).mono ?_; rintro e wm ⟨rfl, zl⟩; refine ⟨_, rfl, ?_⟩; have hz := hKx () wm trivial zl
  dsimp only [zC] at hz
  exact hz
 rintro ⟨⟩
 dsimp only [zC]
 simp only [zn]
 refine crq 4 ?_
 repeat (first | go_big_quiet_skip | (go_big_quiet_want; first | ((first | refine z8 rfl q q rfl rfl true (by simp) ?_ | refine qB ?_ | refine qC ?_); simp only [zn]; go_big_quiet_on) | (go_big_quiet_op; go_big_quiet_on)))
 refine wpQuiet_nil ?_
 refine zy (by rfl) ?hw1_24 ?_ ?_
 case hw1_24 => kernel_rfl
 ·intro wn za hE Kx hKx
  have zf := B.size; have zg := za.size; replace B := B.trans (za.mono B.size)
  (try replace rs := rs.below za)
  (try replace r4 := r4.below za)
  (try replace ts := ts.below za)
  (try replace r5 := r5.below za)
  refine zB rfl (enters_of Tryz.func16 (by kernel_rfl) rfl) (by simp only [Act.eval, z6]; rfl) ?_
  refine (jx _ T true wn ts TN.out TV.out).mono ?_; rintro e wm ⟨rfl, zl⟩; refine ⟨_, rfl, ?_⟩; have hz := hKx () wm trivial zl
  dsimp only [zC] at hz
  exact hz
 rintro ⟨⟩
 dsimp only [zC]
 simp only [zn]
 refine crq 3 ?_
 repeat (first | go_big_quiet_skip | (go_big_quiet_want; first | ((first | refine z8 rfl q q rfl rfl true (by simp) ?_ | refine qB ?_ | refine qC ?_); simp only [zn]; go_big_quiet_on) | (go_big_quiet_op; go_big_quiet_on)))
 refine wpQuiet_nil ?_
 refine zy (by rfl) ?hw1_28 ?_ ?_
 case hw1_28 => kernel_rfl
 ·intro wn za hE Kx hKx
  have zf := B.size; have zg := za.size; replace B := B.trans (za.mono B.size)
  (try replace rs := rs.below za)
  (try replace r4 := r4.below za)
  (try replace ts := ts.below za)
  (try replace r5 := r5.below za)
  refine zB rfl (enters_of Tryz.func19 (by kernel_rfl) rfl) (by simp only [Act.eval, z6]; rfl) ?_
  refine (kO _ T D2 wn ts TN.out HD2.out).mono ?_; rintro e wm ⟨a', c', rfl, odx, zl⟩; exact ⟨_, rfl, hKx (a', c') wm odx.rs zl⟩
 rintro ⟨a40, c40⟩
 dsimp only [zC, JR]
 simp only [zn]
 refine crq 1 ?_
 repeat (first | go_big_quiet_skip | (go_big_quiet_want; first | ((first | refine z8 rfl q q rfl rfl true (by simp) ?_ | refine qB ?_ | refine qC ?_); simp only [zn]; go_big_quiet_on) | (go_big_quiet_op; go_big_quiet_on)))
 refine wpQuiet_nil ?_
 refine zy (by rfl) ?hw1_30 ?_ ?_
 case hw1_30 => kernel_rfl
 ·intro wn za hE Kx hKx
  have zf := B.size; have zg := za.size; replace B := B.trans (za.mono B.size)
  (try replace rs := rs.below za)
  (try replace ts := ts.below za)
  refine zB rfl (enters_of Tryz.func20 (by kernel_rfl) rfl) (by simp only [Act.eval, z6]; rfl) ?_
  refine (u9 _ T D2 wn ts TN.out HD2.out).mono ?_; rintro e wm ⟨a', c', rfl, odx, zl⟩; exact ⟨_, rfl, hKx (a', c') wm odx.rs zl⟩
 rintro ⟨a42, c42⟩
 dsimp only [zC, JR]
 simp only [zn]
 refine zy (by rfl) ?hw1_31 ?_ ?_
 case hw1_31 => kernel_rfl
 ·intro wn za hE Kx hKx
  have zf := B.size; have zg := za.size; replace B := B.trans (za.mono B.size); have n40 := hE 28 (by kernel_rfl); change RSE _ _ _ _ at n40
  have n42 := hE 30 (by kernel_rfl); change RSE _ _ _ _ at n42
  refine zB rfl (enters_of Tryz.func18 (by kernel_rfl) rfl) (by simp only [Act.eval, z6]; rfl) ?_
  refine (vT _ _ D2 D2 true wn n40 n42 DL2.out DL2.out (decide_eq_true rfl)).mono ?_; rintro e wm ⟨rfl, zl⟩; refine ⟨_, rfl, ?_⟩; have hz := hKx () wm trivial zl
  dsimp only [zC] at hz
  exact hz
 rintro ⟨⟩
 dsimp only [zC]
 simp only [zn]
 refine crq 2 ?_
 repeat (first | go_big_quiet_skip | (go_big_quiet_want; first | ((first | refine z8 rfl q q rfl rfl true (by simp) ?_ | refine qB ?_ | refine qC ?_); simp only [zn]; go_big_quiet_on) | (go_big_quiet_op; go_big_quiet_on)))
 refine wpQuiet_nil ?_
 refine zW ?_
 intro wn za hE
 have zf := B.size
 have zg := za.size
 replace B := B.trans (za.mono B.size)
 have n22 := hE 10
 change RSE _ _ _ _ at n22
 have n24 := hE 12
 change RSE _ _ _ _ at n24
 have n40 := hE 28
 change RSE _ _ _ _ at n40
 have n42 := hE 30
 change RSE _ _ _ _ at n42
 clear hE
 try simp only [List.drop_succ_cons, List.drop_zero]
 refine zK.normal ?_
 go_wp2
 go_ret
 exact ⟨rfl, B⟩
namespace strokeDabs
open Go.ChangeShapes Go.WideShapes Go.ChangeAt Go.RowKit
open Go.ChangeMaps (open_string shut_string)
set_option maxRecDepth 100000 in
theorem lifted (os : Os) (started : os.Started) (H : Type) (enc : TypeId × Value → H) :
  ReturnsInHanded {} Tryz.checked os 3 .any (fun w args => (Rows.strokeDabsSpec.pre enc Tryz.prog Tryz.f3 [] false w args ∧ laidMetH Tryz.prog J6 w) ∧ sizedMet enc Tryz.prog Tryz.f3 (OpenSpec.ofChange Rows.strokeDabsSpec) false w args) (Rows.strokeDabsSpec.post enc Tryz.prog Tryz.f3 false true false false) := by
 refine returnsInHanded_of_change_and (C := Tryz.checked) (X := fun w _ => laidMetH Tryz.prog J6 w) (fun _ _ _ hh h => h.of_heap hh) own started (by kernel_rfl) Tryz.func3
  (ChangeSpec.witness_shaped (enc := enc) (C := Tryz.checked) (os := os) (X := fun w _ => laidMetH Tryz.prog J6 w) false (World.doorLaid Tryz.prog 400 os) #[.agg #[.slice none 0 0, .int .i64 0, .int .i64 0]] 8 rfl (World.shaped_of_RefB (by kernel_rfl) (by kernel_rfl)) (by kernel_rfl) (by kernel_rfl) (by kernel_rfl) (WX os _)) ?_
 intro W base args ds gs before hval0 hW _ hsz0 hL _
 have hlm := J8 hL
 have hval : ∀ (j : Nat) t v, Tryz.f3.params[j]? = some t → args[j]? = some v → Value.okWide Tryz.prog W .any base t v := hval0
 have hW' := hW
 obtain ⟨p, q, hA0, hV, rfl, hfz, hnd⟩ := hW
 have hA : DataW.TrodAll enc Tryz.prog W 0 (fun _ => true) true Tryz.f3.params.toList args.toList ds p := hA0
 rw [Tryz.params3] at hA hval hsz0
 obtain ⟨v0, vs0, d0, ds0, p0, q0, hargs, rfl, rfl, h0, r0⟩ := trodAll_cons hA
 obtain ⟨rfl, rfl, rfl⟩ := trodAll_nil r0
 obtain rfl : args = #[v0] := by cases args; simp_all
 obtain ⟨rfl, rfl⟩ := trodVars_none hV
 have hwt0 : ∀ n ∈ DataW.weights Tryz.prog 24 d0, n ≤ reachBytes := fun n hn => by simpa using List.all_eq_true.1 hsz0 n (DataW.weights_mem_each (j := 0) rfl rfl n hn)
 have k0 := h0
 have lt0 : ∀ x ∈ p0, x.block < W.heap.size := by obtain ⟨m, hm⟩ := k0; exact DataW.trod_lt m _ _ _ hm
 obtain ⟨vL0, L0, how0, val0, rfl, hL0, hLn0, hhw0, hvl0⟩ := Ym (hval 0 24 v0 rfl rfl) h0 hwt0
 clear hA0 hval0
 refine (uO vL0 L0 how0 val0  W hlm hL0 hLn0).mono fun e W' ⟨he, bel⟩ => ?_
 subst he
 exact ⟨_, rfl, _, _, _, [], _, [], hW', trodAll_mk1 (shut_bool Tryz.underlying4 _), (trodAll_cons_mk (Below.trod zb4 (by kernel_rfl) (of_decide_eq_true (by kernel_rfl)) k0 bel lt0) trodAll_mk0), rfl, bel.frame _, fun h => by cases h⟩
theorem over : Rows.strokeDabsRow.holds Tryz.pinned (OpenSpec.ofChange Rows.strokeDabsSpec) :=
 OpenClaim.holds_of_wide 3 Tryz.f3 rfl rfl rfl rfl rfl rfl rfl ⟨rfl, rfl, rfl, rfl, rfl⟩ rfl rfl rfl rfl rfl (by kernel_rfl) Tryz.func3 (by kernel_rfl)
  (of_decide_eq_true (by kernel_rfl)) (by unfold Func.isWrapper; first | (rw [if_pos (by decide +kernel)]; kernel_rfl) | (rw [if_neg (by decide +kernel)]; exact ⟨rfl, rfl⟩))
  (fun os started H enc _ => lifted os started H enc)
/-- THE STATEMENT: StrokeDabs returns true for every input, and its arguments read as they did; what the listed variable holds is tied to the program's text. -/
theorem proved : Rows.StrokeDabsCardSaid := by
 unfold Rows.StrokeDabsCardSaid Rows.strokeDabsCard
 exact Claim7.holds_tied_plain_at .later [] [.data] true _ false over (fun _ h => by cases h) (by kernel_rfl) (fun _ h => by cases h) strokeDabs_row_tie rfl ⟨rfl, rfl⟩ (by kernel_rfl) rfl
  (fun f fn hf hfn => by
   obtain rfl : f = 3 := Option.some.inj ((show Tryz.prog.funcNamed "gouache/gouachelaw14.StrokeDabs" = some 3 by kernel_rfl).symm.trans hf) |>.symm
   obtain rfl : fn = Tryz.f3 := (Option.some.inj (Tryz.func3.symm.trans hfn)).symm; exact ⟨by kernel_rfl, fun j t ht => by
    rw [Tryz.params3] at ht; have hm : t ∈ [24] := by simpa using Array.mem_of_getElem? ht
    have hall : ([24].all fun u => !Tryz.prog.wantsStandIn u) = true := by kernel_rfl
    exact (show Tryz.prog.wantsStandIn t = false by simpa using List.all_eq_true.1 hall t hm)⟩)
  (by kernel_rfl)
end strokeDabs
end Go.Proofs.YtepelndbbhdofaaGreatDoor
