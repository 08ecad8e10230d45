import Derived.Test.YtepelndbbhdofaaGreatDoorKa3
import Derived.Laws.IdiomStrings

/- The iterator over the tiles of a rectangle: its contract. -/
namespace Go.Proofs.YtepelndbbhdofaaGreatDoor
open Go.RowKit Go.Shelf Pl
attribute [local go_sem] Oper.semAt_some
set_option linter.unusedVariables false
set_option linter.unusedSimpArgs false
set_option maxRecDepth 20000
/-- The first k of N. -/
def kw (N k : Nat) : List (Fin N) := (List.finRange N).take k
theorem Zz {N k : Nat} (h : k < N) : kw N (k + 1) = kw N k ++ [⟨k, h⟩] := by
 unfold kw
 rw [List.take_succ_eq_append_getElem (by simp; omega)]
 simp
theorem wj {N k : Nat} (h : k ≤ N) : (kw N k).length = k := by unfold kw; simp; omega
theorem zaF (N : Nat) : kw N 0 = [] := rfl
theorem QW (N : Nat) : kw N N = List.finRange N := by unfold kw; rw [List.take_of_length_le (by simp)]
def vp (c : Rc) (i : Fin (K7 c)) : Int × Int := ZG c i.val
theorem zc1 (c : Rc) : (List.finRange (K7 c)).map (vp c) = yY c := by
 unfold yY
 refine List.ext_getElem (by simp) fun i h1 h2 => ?_
 simp [vp]
set_option maxHeartbeats 4000000 in
theorem K6 (c : Rc) (HF : xo c) (bc b8 n : Nat) (hn1 : 1 ≤ n) (w : World) (r0 : zK 38 w bc (jV c)) (hb8 : b8 < w.heap.size) :
  SeqStopsK Fence.wide n Tryz.prog 163 #[.pointer (some ⟨bc, 0, none⟩)] (fun i : Fin (K7 c) => #[.agg #[.int .i64 (vp c i).1, .int .i64 (vp c i).2]]) (JH b8) (fun xs => xs = List.finRange (K7 c)) (fun _ => True) (K7 c) w := fun l J Jx W0 hW hJa hJxa hY h0 => by
 have hb8 := Nat.lt_of_lt_of_le hb8 hW.size
 have r0 := r0.of_eq (hW.block _ r0.lt)
 have B := Below.refl W0.heap.size W0
 clear hW hJxa
 have hf := Lib.hid HF
 have HJ := Lib.hid (fun (W' : World) (hb : Below W0.heap.size W0 W') => AbidesFrom.below hJa h0 hb)
 have HY := Lib.hid hY
 clear h0 hJa hY
 obtain ⟨hew, hw0⟩ := yq (vG HF)
 have hNle := zdH HF
 obtain ⟨f1, f2, f3, f4, f5, f6, f7, f8⟩ := HF
 have hE := Lib.hid (show qn c = false from (yd _).2 ⟨f1, f2⟩)
 obtain ⟨W, hW⟩ : ∃ W : Nat, (c.x1 - 1) / 8 + 1 - c.x0 / 8 = (W : Int) := ⟨((c.x1 - 1) / 8 + 1 - c.x0 / 8).toNat, by omega⟩
 obtain ⟨H, hH⟩ : ∃ H : Nat, (c.y1 - 1) / 8 + 1 - c.y0 / 8 = (H : Int) := ⟨((c.y1 - 1) / 8 + 1 - c.y0 / 8).toNat, by omega⟩
 have eW : widN (zAA c) = W := by unfold widN zAA; simp only; rw [hW]; exact Int.toNat_natCast _
 have eH : ((zAA c).y1 - (zAA c).y0).toNat = H := by unfold zAA; simp only; rw [hH]; exact Int.toNat_natCast _
 rw [eW, eH] at hew
 rw [eW] at hw0
 change K7 c = W * H at hew
 have HR := Lib.hid (fun (k j : Nat) (hj : j < W) => by
  have := zf8 (c := c) hf.out (k := k) (j := j) (by rw [eW]; exact hj)
  rw [eW] at this; exact this)
 have wf1 := Lib.hid (show (Lit.int .i64 c.x0).wf = true from us (by omega) (by omega))
 have wf2 := Lib.hid (show (Lit.int .i64 c.y0).wf = true from us (by omega) (by omega))
 have wf3 := Lib.hid (show (Lit.int .i64 (c.x1 - 1)).wf = true from us (by omega) (by omega))
 have wf4 := Lib.hid (show (Lit.int .i64 (c.y1 - 1)).wf = true from us (by omega) (by omega))
 refine callsIn_wide.2 ?_
 show Calls Tryz.prog 163 #[.func (.yield l) #[] #[], .pointer (some ⟨bc, 0, none⟩)] W0 _
 go_enter Tryz.func163, Tryz.ntmps163
 go_upto_region 0 with fail
 refine wp_region_lit ?_
 refine zy 1 ?_
 refine je (enters_of Tryz.func45 (by kernel_rfl) rfl) (c := QB c false _ hE.out) (h := ?_)
 rintro e wn ⟨rfl, za⟩
 have zf := B.size
 have zg := za.size
 replace B := B.trans (za.mono B.size)
 (try replace r0 := r0.below za)
 refine ⟨_, rfl, ?_⟩
 simp only [zo]
 refine wpList_nil ?_
 have hsw := za.size
 go_upto_region 1 with fail
 have r0B := r0
 go_cut [3, 4] from 9 to 29 (fun s3 s4 wx => ∃ b_p3 b_p4, s3 = .pointer (some ⟨b_p3, 0, none⟩) ∧ s4 = .pointer (some ⟨b_p4, 0, none⟩) ∧ Below W0.heap.size W0 wx ∧ W0.heap.size ≤ b_p3 ∧ W0.heap.size ≤ b_p4 ∧ zK 95 wx b_p3 #[.int .i64 (c.x0 / 8), .int .i64 (c.y0 / 8)] ∧ zK 95 wx b_p4 #[.int .i64 ((c.x1 - 1) / 8), .int .i64 ((c.y1 - 1) / 8)])
 case first =>
  refine yG 16 #[false, false, false, false, false, false, false, false, false, false, false, false, false, false, false, false, false, false] (by kernel_rfl) (by kernel_rfl) ?_; intro wn za; have hX := za; have zf := B.size; have zg := za.size; replace B := B.trans (za.mono B.size); try replace r0 := r0.below za
  simp only [List.length_cons, List.length_nil, Nat.reduceAdd]; refine z1 0 rfl (by kernel_rfl) ⟨_, zG hX⟩ ?_; intro K hK; try simp only [zM]
  (first | (refine zn (t := 38) rfl _ _ _ rfl (fun w hw => zv (zB r0B w hw) Tryz.isAgg38 (by kernel_rfl)) (by rfl) ?_; simp only [zo]; go_big_quiet_on) | (refine zn (t := 3) rfl _ _ _ rfl (fun w hw => zu ((zB r0B w hw).cellL 0 rfl)) (by rfl) ?_; simp only [zo]; go_big_quiet_on) | (refine zn (t := 3) rfl _ _ _ rfl (fun w hw => zu ((zB r0B w hw).cellL 1 rfl)) (by rfl) ?_; simp only [zo]; go_big_quiet_on) | (refine zn (t := 3) rfl _ _ _ rfl (fun w hw => zu ((zB r0B w hw).cellL 2 rfl)) (by rfl) ?_; simp only [zo]; go_big_quiet_on) | (refine zn (t := 3) rfl _ _ _ rfl (fun w hw => zu ((zB r0B w hw).cellL 3 rfl)) (by rfl) ?_; simp only [zo]; go_big_quiet_on) | (go_big_quiet_op; go_big_quiet_on))
  simp only [zo]; refine z1 1 rfl (by kernel_rfl) ⟨_, zG hX⟩ ?_; intro K hK; try simp only [zM]
  (first | (refine zn (t := 38) rfl _ _ _ rfl (fun w hw => zv (zB r0B w hw) Tryz.isAgg38 (by kernel_rfl)) (by rfl) ?_; simp only [zo]; go_big_quiet_on) | (refine zn (t := 3) rfl _ _ _ rfl (fun w hw => zu ((zB r0B w hw).cellL 0 rfl)) (by rfl) ?_; simp only [zo]; go_big_quiet_on) | (refine zn (t := 3) rfl _ _ _ rfl (fun w hw => zu ((zB r0B w hw).cellL 1 rfl)) (by rfl) ?_; simp only [zo]; go_big_quiet_on) | (refine zn (t := 3) rfl _ _ _ rfl (fun w hw => zu ((zB r0B w hw).cellL 2 rfl)) (by rfl) ?_; simp only [zo]; go_big_quiet_on) | (refine zn (t := 3) rfl _ _ _ rfl (fun w hw => zu ((zB r0B w hw).cellL 3 rfl)) (by rfl) ?_; simp only [zo]; go_big_quiet_on) | (go_big_quiet_op; go_big_quiet_on))
  simp only [zo]; refine z1 2 rfl (by kernel_rfl) ⟨_, zG hX⟩ ?_; intro K hK; try simp only [zM]
  (first | (refine zn (t := 38) rfl _ _ _ rfl (fun w hw => zv (zB r0B w hw) Tryz.isAgg38 (by kernel_rfl)) (by rfl) ?_; simp only [zo]; go_big_quiet_on) | (refine zn (t := 3) rfl _ _ _ rfl (fun w hw => zu ((zB r0B w hw).cellL 0 rfl)) (by rfl) ?_; simp only [zo]; go_big_quiet_on) | (refine zn (t := 3) rfl _ _ _ rfl (fun w hw => zu ((zB r0B w hw).cellL 1 rfl)) (by rfl) ?_; simp only [zo]; go_big_quiet_on) | (refine zn (t := 3) rfl _ _ _ rfl (fun w hw => zu ((zB r0B w hw).cellL 2 rfl)) (by rfl) ?_; simp only [zo]; go_big_quiet_on) | (refine zn (t := 3) rfl _ _ _ rfl (fun w hw => zu ((zB r0B w hw).cellL 3 rfl)) (by rfl) ?_; simp only [zo]; go_big_quiet_on) | (go_big_quiet_op; go_big_quiet_on))
  simp only [zo]; refine z1 3 rfl (by kernel_rfl) ⟨_, zG hX⟩ ?_; intro K hK; try simp only [zM]
  (first | (refine zn (t := 38) rfl _ _ _ rfl (fun w hw => zv (zB r0B w hw) Tryz.isAgg38 (by kernel_rfl)) (by rfl) ?_; simp only [zo]; go_big_quiet_on) | (refine zn (t := 3) rfl _ _ _ rfl (fun w hw => zu ((zB r0B w hw).cellL 0 rfl)) (by rfl) ?_; simp only [zo]; go_big_quiet_on) | (refine zn (t := 3) rfl _ _ _ rfl (fun w hw => zu ((zB r0B w hw).cellL 1 rfl)) (by rfl) ?_; simp only [zo]; go_big_quiet_on) | (refine zn (t := 3) rfl _ _ _ rfl (fun w hw => zu ((zB r0B w hw).cellL 2 rfl)) (by rfl) ?_; simp only [zo]; go_big_quiet_on) | (refine zn (t := 3) rfl _ _ _ rfl (fun w hw => zu ((zB r0B w hw).cellL 3 rfl)) (by rfl) ?_; simp only [zo]; go_big_quiet_on) | (go_big_quiet_op; go_big_quiet_on))
  simp only [zo]; refine z1 4 rfl (by kernel_rfl) ⟨_, zG hX⟩ ?_; intro K hK; try simp only [zM]
  (first | (refine zn (t := 38) rfl _ _ _ rfl (fun w hw => zv (zB r0B w hw) Tryz.isAgg38 (by kernel_rfl)) (by rfl) ?_; simp only [zo]; go_big_quiet_on) | (refine zn (t := 3) rfl _ _ _ rfl (fun w hw => zu ((zB r0B w hw).cellL 0 rfl)) (by rfl) ?_; simp only [zo]; go_big_quiet_on) | (refine zn (t := 3) rfl _ _ _ rfl (fun w hw => zu ((zB r0B w hw).cellL 1 rfl)) (by rfl) ?_; simp only [zo]; go_big_quiet_on) | (refine zn (t := 3) rfl _ _ _ rfl (fun w hw => zu ((zB r0B w hw).cellL 2 rfl)) (by rfl) ?_; simp only [zo]; go_big_quiet_on) | (refine zn (t := 3) rfl _ _ _ rfl (fun w hw => zu ((zB r0B w hw).cellL 3 rfl)) (by rfl) ?_; simp only [zo]; go_big_quiet_on) | (go_big_quiet_op; go_big_quiet_on))
  simp only [zo]; refine z1 6 rfl (by kernel_rfl) ⟨_, zG hX⟩ ?_; intro K hK; try simp only [zM]
  (first | (refine zn (t := 38) rfl _ _ _ rfl (fun w hw => zv (zB r0B w hw) Tryz.isAgg38 (by kernel_rfl)) (by rfl) ?_; simp only [zo]; go_big_quiet_on) | (refine zn (t := 3) rfl _ _ _ rfl (fun w hw => zu ((zB r0B w hw).cellL 0 rfl)) (by rfl) ?_; simp only [zo]; go_big_quiet_on) | (refine zn (t := 3) rfl _ _ _ rfl (fun w hw => zu ((zB r0B w hw).cellL 1 rfl)) (by rfl) ?_; simp only [zo]; go_big_quiet_on) | (refine zn (t := 3) rfl _ _ _ rfl (fun w hw => zu ((zB r0B w hw).cellL 2 rfl)) (by rfl) ?_; simp only [zo]; go_big_quiet_on) | (refine zn (t := 3) rfl _ _ _ rfl (fun w hw => zu ((zB r0B w hw).cellL 3 rfl)) (by rfl) ?_; simp only [zo]; go_big_quiet_on) | (go_big_quiet_op; go_big_quiet_on))
  simp only [zo]; refine z1 7 rfl (by kernel_rfl) ⟨_, zG hX⟩ ?_; intro K hK; try simp only [zM]
  (first | (refine zn (t := 38) rfl _ _ _ rfl (fun w hw => zv (zB r0B w hw) Tryz.isAgg38 (by kernel_rfl)) (by rfl) ?_; simp only [zo]; go_big_quiet_on) | (refine zn (t := 3) rfl _ _ _ rfl (fun w hw => zu ((zB r0B w hw).cellL 0 rfl)) (by rfl) ?_; simp only [zo]; go_big_quiet_on) | (refine zn (t := 3) rfl _ _ _ rfl (fun w hw => zu ((zB r0B w hw).cellL 1 rfl)) (by rfl) ?_; simp only [zo]; go_big_quiet_on) | (refine zn (t := 3) rfl _ _ _ rfl (fun w hw => zu ((zB r0B w hw).cellL 2 rfl)) (by rfl) ?_; simp only [zo]; go_big_quiet_on) | (refine zn (t := 3) rfl _ _ _ rfl (fun w hw => zu ((zB r0B w hw).cellL 3 rfl)) (by rfl) ?_; simp only [zo]; go_big_quiet_on) | (go_big_quiet_op; go_big_quiet_on))
  simp only [zo]; refine z1 8 rfl (by kernel_rfl) ⟨_, zG hX⟩ ?_; intro K hK; try simp only [zM]
  (first | (refine zn (t := 38) rfl _ _ _ rfl (fun w hw => zv (zB r0B w hw) Tryz.isAgg38 (by kernel_rfl)) (by rfl) ?_; simp only [zo]; go_big_quiet_on) | (refine zn (t := 3) rfl _ _ _ rfl (fun w hw => zu ((zB r0B w hw).cellL 0 rfl)) (by rfl) ?_; simp only [zo]; go_big_quiet_on) | (refine zn (t := 3) rfl _ _ _ rfl (fun w hw => zu ((zB r0B w hw).cellL 1 rfl)) (by rfl) ?_; simp only [zo]; go_big_quiet_on) | (refine zn (t := 3) rfl _ _ _ rfl (fun w hw => zu ((zB r0B w hw).cellL 2 rfl)) (by rfl) ?_; simp only [zo]; go_big_quiet_on) | (refine zn (t := 3) rfl _ _ _ rfl (fun w hw => zu ((zB r0B w hw).cellL 3 rfl)) (by rfl) ?_; simp only [zo]; go_big_quiet_on) | (go_big_quiet_op; go_big_quiet_on))
  simp only [zo]; refine z1 9 rfl (by kernel_rfl) ⟨_, zG hX⟩ ?_; intro K hK; try simp only [zM]
  (first | (refine zn (t := 38) rfl _ _ _ rfl (fun w hw => zv (zB r0B w hw) Tryz.isAgg38 (by kernel_rfl)) (by rfl) ?_; simp only [zo]; go_big_quiet_on) | (refine zn (t := 3) rfl _ _ _ rfl (fun w hw => zu ((zB r0B w hw).cellL 0 rfl)) (by rfl) ?_; simp only [zo]; go_big_quiet_on) | (refine zn (t := 3) rfl _ _ _ rfl (fun w hw => zu ((zB r0B w hw).cellL 1 rfl)) (by rfl) ?_; simp only [zo]; go_big_quiet_on) | (refine zn (t := 3) rfl _ _ _ rfl (fun w hw => zu ((zB r0B w hw).cellL 2 rfl)) (by rfl) ?_; simp only [zo]; go_big_quiet_on) | (refine zn (t := 3) rfl _ _ _ rfl (fun w hw => zu ((zB r0B w hw).cellL 3 rfl)) (by rfl) ?_; simp only [zo]; go_big_quiet_on) | (go_big_quiet_op; go_big_quiet_on))
  simp only [zo]; refine z1 10 rfl (by kernel_rfl) ⟨_, zG hX⟩ ?_; intro K hK; try simp only [zM]
  (first | (refine zn (t := 38) rfl _ _ _ rfl (fun w hw => zv (zB r0B w hw) Tryz.isAgg38 (by kernel_rfl)) (by rfl) ?_; simp only [zo]; go_big_quiet_on) | (refine zn (t := 3) rfl _ _ _ rfl (fun w hw => zu ((zB r0B w hw).cellL 0 rfl)) (by rfl) ?_; simp only [zo]; go_big_quiet_on) | (refine zn (t := 3) rfl _ _ _ rfl (fun w hw => zu ((zB r0B w hw).cellL 1 rfl)) (by rfl) ?_; simp only [zo]; go_big_quiet_on) | (refine zn (t := 3) rfl _ _ _ rfl (fun w hw => zu ((zB r0B w hw).cellL 2 rfl)) (by rfl) ?_; simp only [zo]; go_big_quiet_on) | (refine zn (t := 3) rfl _ _ _ rfl (fun w hw => zu ((zB r0B w hw).cellL 3 rfl)) (by rfl) ?_; simp only [zo]; go_big_quiet_on) | (go_big_quiet_op; go_big_quiet_on))
  simp only [zo]; refine z1 11 rfl (by kernel_rfl) ⟨_, zG hX⟩ ?_; intro K hK; try simp only [zM]
  (first | (refine zn (t := 38) rfl _ _ _ rfl (fun w hw => zv (zB r0B w hw) Tryz.isAgg38 (by kernel_rfl)) (by rfl) ?_; simp only [zo]; go_big_quiet_on) | (refine zn (t := 3) rfl _ _ _ rfl (fun w hw => zu ((zB r0B w hw).cellL 0 rfl)) (by rfl) ?_; simp only [zo]; go_big_quiet_on) | (refine zn (t := 3) rfl _ _ _ rfl (fun w hw => zu ((zB r0B w hw).cellL 1 rfl)) (by rfl) ?_; simp only [zo]; go_big_quiet_on) | (refine zn (t := 3) rfl _ _ _ rfl (fun w hw => zu ((zB r0B w hw).cellL 2 rfl)) (by rfl) ?_; simp only [zo]; go_big_quiet_on) | (refine zn (t := 3) rfl _ _ _ rfl (fun w hw => zu ((zB r0B w hw).cellL 3 rfl)) (by rfl) ?_; simp only [zo]; go_big_quiet_on) | (go_big_quiet_op; go_big_quiet_on))
  simp only [zo]; refine z1 12 rfl (by kernel_rfl) ⟨_, zG hX⟩ ?_; intro K hK; try simp only [zM]
  (first | (refine zn (t := 38) rfl _ _ _ rfl (fun w hw => zv (zB r0B w hw) Tryz.isAgg38 (by kernel_rfl)) (by rfl) ?_; simp only [zo]; go_big_quiet_on) | (refine zn (t := 3) rfl _ _ _ rfl (fun w hw => zu ((zB r0B w hw).cellL 0 rfl)) (by rfl) ?_; simp only [zo]; go_big_quiet_on) | (refine zn (t := 3) rfl _ _ _ rfl (fun w hw => zu ((zB r0B w hw).cellL 1 rfl)) (by rfl) ?_; simp only [zo]; go_big_quiet_on) | (refine zn (t := 3) rfl _ _ _ rfl (fun w hw => zu ((zB r0B w hw).cellL 2 rfl)) (by rfl) ?_; simp only [zo]; go_big_quiet_on) | (refine zn (t := 3) rfl _ _ _ rfl (fun w hw => zu ((zB r0B w hw).cellL 3 rfl)) (by rfl) ?_; simp only [zo]; go_big_quiet_on) | (go_big_quiet_op; go_big_quiet_on))
  simp only [zo]; refine QE 5 14 15 rfl rfl rfl (by kernel_rfl) rfl rfl rfl (fun K hK => ?_) (fun K hK => ?_) (fun K hK => ?_)
  ·skip
   go_simp
   go_at_call 81
   refine (y7 c.x0 c.y0 _ wf1.out wf2.out).mono ?_; rintro e wn ⟨rfl, za⟩; have zf := B.size; have zg := za.size; have hsx := hX.size; replace B := B.trans (za.mono B.size); replace hX := hX.trans (za.mono hX.size); try replace p3 := p3.below za
   try replace p4 := p4.below za
   refine hK _ _ ⟨fun _ => ⟨_, zG hX⟩, ?_⟩; clear hK K; simp only [zo]; refine QE 13 14 15 rfl rfl rfl (by kernel_rfl) rfl rfl rfl (fun K hK => ?_) (fun K hK => ?_) (fun K hK => ?_)
   ·skip
    go_simp
    go_at_call 81
    refine (y7 (c.x1 - 1) (c.y1 - 1) _ wf3.out wf4.out).mono ?_; rintro e wn ⟨rfl, za⟩; have zf := B.size; have zg := za.size; have hsx := hX.size; replace B := B.trans (za.mono B.size); replace hX := hX.trans (za.mono hX.size); try replace p3 := p3.below za
    try replace p4 := p4.below za
    refine hK _ _ ⟨fun _ => ⟨_, zG hX⟩, ?_⟩; clear hK K; simp only [zo]; refine jK 14 15 rfl rfl (by kernel_rfl) rfl rfl (fun K hK => ?_) (fun K hK => ?_)
    ·skip
     refine zQ (t := 95) _ (z6 _ _ rfl) ?_; intro b_p3 wn zb zd ht za zg; have zf := B.size; have hsx := hX.size; replace B := B.trans (za.mono (by omega)); replace hX := hX.trans (za.mono (by omega)); try replace p3 := p3.below (za.mono zb)
     try replace p4 := p4.below (za.mono zb)
     have p3 := ht; clear ht; refine hK _ _ ⟨fun _ => ⟨_, zG hX⟩, ?_⟩; clear hK K; simp only [zo]; refine zR 15 rfl (by kernel_rfl) rfl (fun K hK => ?_); refine zQ (t := 95) _ (z6 _ _ rfl) ?_; intro b_p4 wn zb zd ht za zg; have zf := B.size; have hsx := hX.size; replace B := B.trans (za.mono (by omega)); replace hX := hX.trans (za.mono (by omega)); try replace p3 := p3.below (za.mono zb)
     try replace p4 := p4.below (za.mono zb)
     have p4 := ht; clear ht; refine hK _ _ ⟨fun _ => ⟨_, zG hX⟩, ?_⟩; clear hK K; simp only [zo]; refine qE (by kernel_rfl) (by kernel_rfl) ?_; simp only [List.drop_succ_cons, List.drop_zero]; go_wp2_with (first | (refine zq (t := 95) rfl _ _ rfl _ rfl _ rfl p3 (by kernel_rfl) rfl (by simp [Value.oneCell']) (qG B (by omega) ?_); clear p3 B; intro wn p3 ze zf zg B; (try replace p4 := p4.of_eq (ze.block _ p4.lt (by omega))); simp only [zo]) | (refine zq (t := 95) rfl _ _ rfl _ rfl _ rfl p4 (by kernel_rfl) rfl (by simp [Value.oneCell']) (qG B (by omega) ?_); clear p4 B; intro wn p4 ze zf zg B; (try replace p3 := p3.of_eq (ze.block _ p3.lt (by omega))); simp only [zo]) | fail)
     refine zL.normal ?_; go_wp2_with fail
     go_meet; exact ⟨b_p3, b_p4, rfl, rfl, B, by omega, by omega, p3, p4⟩
    ·skip
     refine zQ (t := 95) _ (z6 _ _ rfl) ?_; intro b_p4 wn zb zd ht za zg; have zf := B.size; have hsx := hX.size; replace B := B.trans (za.mono (by omega)); replace hX := hX.trans (za.mono (by omega)); try replace p3 := p3.below (za.mono zb)
     try replace p4 := p4.below (za.mono zb)
     have p4 := ht; clear ht; refine hK _ _ ⟨fun _ => ⟨_, zG hX⟩, ?_⟩; clear hK K; simp only [zo]; refine zR 14 rfl (by kernel_rfl) rfl (fun K hK => ?_); refine zQ (t := 95) _ (z6 _ _ rfl) ?_; intro b_p3 wn zb zd ht za zg; have zf := B.size; have hsx := hX.size; replace B := B.trans (za.mono (by omega)); replace hX := hX.trans (za.mono (by omega)); try replace p3 := p3.below (za.mono zb)
     try replace p4 := p4.below (za.mono zb)
     have p3 := ht; clear ht; refine hK _ _ ⟨fun _ => ⟨_, zG hX⟩, ?_⟩; clear hK K; simp only [zo]; refine qE (by kernel_rfl) (by kernel_rfl) ?_; simp only [List.drop_succ_cons, List.drop_zero]; go_wp2_with (first | (refine zq (t := 95) rfl _ _ rfl _ rfl _ rfl p3 (by kernel_rfl) rfl (by simp [Value.oneCell']) (qG B (by omega) ?_); clear p3 B; intro wn p3 ze zf zg B; (try replace p4 := p4.of_eq (ze.block _ p4.lt (by omega))); simp only [zo]) | (refine zq (t := 95) rfl _ _ rfl _ rfl _ rfl p4 (by kernel_rfl) rfl (by simp [Value.oneCell']) (qG B (by omega) ?_); clear p4 B; intro wn p4 ze zf zg B; (try replace p3 := p3.of_eq (ze.block _ p3.lt (by omega))); simp only [zo]) | fail)
     refine zL.normal ?_; go_wp2_with fail
     go_meet; exact ⟨b_p3, b_p4, rfl, rfl, B, by omega, by omega, p3, p4⟩
   ·skip
    refine zQ (t := 95) _ (z6 _ _ rfl) ?_; intro b_p3 wn zb zd ht za zg; have zf := B.size; have hsx := hX.size; replace B := B.trans (za.mono (by omega)); replace hX := hX.trans (za.mono (by omega)); try replace p3 := p3.below (za.mono zb)
    try replace p4 := p4.below (za.mono zb)
    have p3 := ht; clear ht; refine hK _ _ ⟨fun _ => ⟨_, zG hX⟩, ?_⟩; clear hK K; simp only [zo]; refine jK 13 15 rfl rfl (by kernel_rfl) rfl rfl (fun K hK => ?_) (fun K hK => ?_)
    ·skip
     go_simp
     go_at_call 81
     refine (y7 (c.x1 - 1) (c.y1 - 1) _ wf3.out wf4.out).mono ?_; rintro e wn ⟨rfl, za⟩; have zf := B.size; have zg := za.size; have hsx := hX.size; replace B := B.trans (za.mono B.size); replace hX := hX.trans (za.mono hX.size); try replace p3 := p3.below za
     try replace p4 := p4.below za
     refine hK _ _ ⟨fun _ => ⟨_, zG hX⟩, ?_⟩; clear hK K; simp only [zo]; refine zR 15 rfl (by kernel_rfl) rfl (fun K hK => ?_); refine zQ (t := 95) _ (z6 _ _ rfl) ?_; intro b_p4 wn zb zd ht za zg; have zf := B.size; have hsx := hX.size; replace B := B.trans (za.mono (by omega)); replace hX := hX.trans (za.mono (by omega)); try replace p3 := p3.below (za.mono zb)
     try replace p4 := p4.below (za.mono zb)
     have p4 := ht; clear ht; refine hK _ _ ⟨fun _ => ⟨_, zG hX⟩, ?_⟩; clear hK K; simp only [zo]; refine qE (by kernel_rfl) (by kernel_rfl) ?_; simp only [List.drop_succ_cons, List.drop_zero]; go_wp2_with (first | (refine zq (t := 95) rfl _ _ rfl _ rfl _ rfl p3 (by kernel_rfl) rfl (by simp [Value.oneCell']) (qG B (by omega) ?_); clear p3 B; intro wn p3 ze zf zg B; (try replace p4 := p4.of_eq (ze.block _ p4.lt (by omega))); simp only [zo]) | (refine zq (t := 95) rfl _ _ rfl _ rfl _ rfl p4 (by kernel_rfl) rfl (by simp [Value.oneCell']) (qG B (by omega) ?_); clear p4 B; intro wn p4 ze zf zg B; (try replace p3 := p3.of_eq (ze.block _ p3.lt (by omega))); simp only [zo]) | fail)
     refine zL.normal ?_; go_wp2_with fail
     go_meet; exact ⟨b_p3, b_p4, rfl, rfl, B, by omega, by omega, p3, p4⟩
    ·skip
     refine zQ (t := 95) _ (z6 _ _ rfl) ?_; intro b_p4 wn zb zd ht za zg; have zf := B.size; have hsx := hX.size; replace B := B.trans (za.mono (by omega)); replace hX := hX.trans (za.mono (by omega)); try replace p3 := p3.below (za.mono zb)
     try replace p4 := p4.below (za.mono zb)
     have p4 := ht; clear ht; refine hK _ _ ⟨fun _ => ⟨_, zG hX⟩, ?_⟩; clear hK K; simp only [zo]; refine zR 13 rfl (by kernel_rfl) rfl (fun K hK => ?_); go_simp
     go_at_call 81
     refine (y7 (c.x1 - 1) (c.y1 - 1) _ wf3.out wf4.out).mono ?_; rintro e wn ⟨rfl, za⟩; have zf := B.size; have zg := za.size; have hsx := hX.size; replace B := B.trans (za.mono B.size); replace hX := hX.trans (za.mono hX.size); try replace p3 := p3.below za
     try replace p4 := p4.below za
     refine hK _ _ ⟨fun _ => ⟨_, zG hX⟩, ?_⟩; clear hK K; simp only [zo]; refine qE (by kernel_rfl) (by kernel_rfl) ?_; simp only [List.drop_succ_cons, List.drop_zero]; go_wp2_with (first | (refine zq (t := 95) rfl _ _ rfl _ rfl _ rfl p3 (by kernel_rfl) rfl (by simp [Value.oneCell']) (qG B (by omega) ?_); clear p3 B; intro wn p3 ze zf zg B; (try replace p4 := p4.of_eq (ze.block _ p4.lt (by omega))); simp only [zo]) | (refine zq (t := 95) rfl _ _ rfl _ rfl _ rfl p4 (by kernel_rfl) rfl (by simp [Value.oneCell']) (qG B (by omega) ?_); clear p4 B; intro wn p4 ze zf zg B; (try replace p3 := p3.of_eq (ze.block _ p3.lt (by omega))); simp only [zo]) | fail)
     refine zL.normal ?_; go_wp2_with fail
     go_meet; exact ⟨b_p3, b_p4, rfl, rfl, B, by omega, by omega, p3, p4⟩
   ·skip
    refine zQ (t := 95) _ (z6 _ _ rfl) ?_; intro b_p4 wn zb zd ht za zg; have zf := B.size; have hsx := hX.size; replace B := B.trans (za.mono (by omega)); replace hX := hX.trans (za.mono (by omega)); try replace p3 := p3.below (za.mono zb)
    try replace p4 := p4.below (za.mono zb)
    have p4 := ht; clear ht; refine hK _ _ ⟨fun _ => ⟨_, zG hX⟩, ?_⟩; clear hK K; simp only [zo]; refine jK 13 14 rfl rfl (by kernel_rfl) rfl rfl (fun K hK => ?_) (fun K hK => ?_)
    ·skip
     go_simp
     go_at_call 81
     refine (y7 (c.x1 - 1) (c.y1 - 1) _ wf3.out wf4.out).mono ?_; rintro e wn ⟨rfl, za⟩; have zf := B.size; have zg := za.size; have hsx := hX.size; replace B := B.trans (za.mono B.size); replace hX := hX.trans (za.mono hX.size); try replace p3 := p3.below za
     try replace p4 := p4.below za
     refine hK _ _ ⟨fun _ => ⟨_, zG hX⟩, ?_⟩; clear hK K; simp only [zo]; refine zR 14 rfl (by kernel_rfl) rfl (fun K hK => ?_); refine zQ (t := 95) _ (z6 _ _ rfl) ?_; intro b_p3 wn zb zd ht za zg; have zf := B.size; have hsx := hX.size; replace B := B.trans (za.mono (by omega)); replace hX := hX.trans (za.mono (by omega)); try replace p3 := p3.below (za.mono zb)
     try replace p4 := p4.below (za.mono zb)
     have p3 := ht; clear ht; refine hK _ _ ⟨fun _ => ⟨_, zG hX⟩, ?_⟩; clear hK K; simp only [zo]; refine qE (by kernel_rfl) (by kernel_rfl) ?_; simp only [List.drop_succ_cons, List.drop_zero]; go_wp2_with (first | (refine zq (t := 95) rfl _ _ rfl _ rfl _ rfl p3 (by kernel_rfl) rfl (by simp [Value.oneCell']) (qG B (by omega) ?_); clear p3 B; intro wn p3 ze zf zg B; (try replace p4 := p4.of_eq (ze.block _ p4.lt (by omega))); simp only [zo]) | (refine zq (t := 95) rfl _ _ rfl _ rfl _ rfl p4 (by kernel_rfl) rfl (by simp [Value.oneCell']) (qG B (by omega) ?_); clear p4 B; intro wn p4 ze zf zg B; (try replace p3 := p3.of_eq (ze.block _ p3.lt (by omega))); simp only [zo]) | fail)
     refine zL.normal ?_; go_wp2_with fail
     go_meet; exact ⟨b_p3, b_p4, rfl, rfl, B, by omega, by omega, p3, p4⟩
    ·skip
     refine zQ (t := 95) _ (z6 _ _ rfl) ?_; intro b_p3 wn zb zd ht za zg; have zf := B.size; have hsx := hX.size; replace B := B.trans (za.mono (by omega)); replace hX := hX.trans (za.mono (by omega)); try replace p3 := p3.below (za.mono zb)
     try replace p4 := p4.below (za.mono zb)
     have p3 := ht; clear ht; refine hK _ _ ⟨fun _ => ⟨_, zG hX⟩, ?_⟩; clear hK K; simp only [zo]; refine zR 13 rfl (by kernel_rfl) rfl (fun K hK => ?_); go_simp
     go_at_call 81
     refine (y7 (c.x1 - 1) (c.y1 - 1) _ wf3.out wf4.out).mono ?_; rintro e wn ⟨rfl, za⟩; have zf := B.size; have zg := za.size; have hsx := hX.size; replace B := B.trans (za.mono B.size); replace hX := hX.trans (za.mono hX.size); try replace p3 := p3.below za
     try replace p4 := p4.below za
     refine hK _ _ ⟨fun _ => ⟨_, zG hX⟩, ?_⟩; clear hK K; simp only [zo]; refine qE (by kernel_rfl) (by kernel_rfl) ?_; simp only [List.drop_succ_cons, List.drop_zero]; go_wp2_with (first | (refine zq (t := 95) rfl _ _ rfl _ rfl _ rfl p3 (by kernel_rfl) rfl (by simp [Value.oneCell']) (qG B (by omega) ?_); clear p3 B; intro wn p3 ze zf zg B; (try replace p4 := p4.of_eq (ze.block _ p4.lt (by omega))); simp only [zo]) | (refine zq (t := 95) rfl _ _ rfl _ rfl _ rfl p4 (by kernel_rfl) rfl (by simp [Value.oneCell']) (qG B (by omega) ?_); clear p4 B; intro wn p4 ze zf zg B; (try replace p3 := p3.of_eq (ze.block _ p3.lt (by omega))); simp only [zo]) | fail)
     refine zL.normal ?_; go_wp2_with fail
     go_meet; exact ⟨b_p3, b_p4, rfl, rfl, B, by omega, by omega, p3, p4⟩
  ·skip
   refine zQ (t := 95) _ (z6 _ _ rfl) ?_; intro b_p3 wn zb zd ht za zg; have zf := B.size; have hsx := hX.size; replace B := B.trans (za.mono (by omega)); replace hX := hX.trans (za.mono (by omega)); try replace p3 := p3.below (za.mono zb)
   try replace p4 := p4.below (za.mono zb)
   have p3 := ht; clear ht; refine hK _ _ ⟨fun _ => ⟨_, zG hX⟩, ?_⟩; clear hK K; simp only [zo]; refine jK 5 15 rfl rfl (by kernel_rfl) rfl rfl (fun K hK => ?_) (fun K hK => ?_)
   ·skip
    go_simp
    go_at_call 81
    refine (y7 c.x0 c.y0 _ wf1.out wf2.out).mono ?_; rintro e wn ⟨rfl, za⟩; have zf := B.size; have zg := za.size; have hsx := hX.size; replace B := B.trans (za.mono B.size); replace hX := hX.trans (za.mono hX.size); try replace p3 := p3.below za
    try replace p4 := p4.below za
    refine hK _ _ ⟨fun _ => ⟨_, zG hX⟩, ?_⟩; clear hK K; simp only [zo]; refine jK 13 15 rfl rfl (by kernel_rfl) rfl rfl (fun K hK => ?_) (fun K hK => ?_)
    ·skip
     go_simp
     go_at_call 81
     refine (y7 (c.x1 - 1) (c.y1 - 1) _ wf3.out wf4.out).mono ?_; rintro e wn ⟨rfl, za⟩; have zf := B.size; have zg := za.size; have hsx := hX.size; replace B := B.trans (za.mono B.size); replace hX := hX.trans (za.mono hX.size); try replace p3 := p3.below za
     try replace p4 := p4.below za
     refine hK _ _ ⟨fun _ => ⟨_, zG hX⟩, ?_⟩; clear hK K; simp only [zo]; refine zR 15 rfl (by kernel_rfl) rfl (fun K hK => ?_); refine zQ (t := 95) _ (z6 _ _ rfl) ?_; intro b_p4 wn zb zd ht za zg; have zf := B.size; have hsx := hX.size; replace B := B.trans (za.mono (by omega)); replace hX := hX.trans (za.mono (by omega)); try replace p3 := p3.below (za.mono zb)
     try replace p4 := p4.below (za.mono zb)
     have p4 := ht; clear ht; refine hK _ _ ⟨fun _ => ⟨_, zG hX⟩, ?_⟩; clear hK K; simp only [zo]; refine qE (by kernel_rfl) (by kernel_rfl) ?_; simp only [List.drop_succ_cons, List.drop_zero]; go_wp2_with (first | (refine zq (t := 95) rfl _ _ rfl _ rfl _ rfl p3 (by kernel_rfl) rfl (by simp [Value.oneCell']) (qG B (by omega) ?_); clear p3 B; intro wn p3 ze zf zg B; (try replace p4 := p4.of_eq (ze.block _ p4.lt (by omega))); simp only [zo]) | (refine zq (t := 95) rfl _ _ rfl _ rfl _ rfl p4 (by kernel_rfl) rfl (by simp [Value.oneCell']) (qG B (by omega) ?_); clear p4 B; intro wn p4 ze zf zg B; (try replace p3 := p3.of_eq (ze.block _ p3.lt (by omega))); simp only [zo]) | fail)
     refine zL.normal ?_; go_wp2_with fail
     go_meet; exact ⟨b_p3, b_p4, rfl, rfl, B, by omega, by omega, p3, p4⟩
    ·skip
     refine zQ (t := 95) _ (z6 _ _ rfl) ?_; intro b_p4 wn zb zd ht za zg; have zf := B.size; have hsx := hX.size; replace B := B.trans (za.mono (by omega)); replace hX := hX.trans (za.mono (by omega)); try replace p3 := p3.below (za.mono zb)
     try replace p4 := p4.below (za.mono zb)
     have p4 := ht; clear ht; refine hK _ _ ⟨fun _ => ⟨_, zG hX⟩, ?_⟩; clear hK K; simp only [zo]; refine zR 13 rfl (by kernel_rfl) rfl (fun K hK => ?_); go_simp
     go_at_call 81
     refine (y7 (c.x1 - 1) (c.y1 - 1) _ wf3.out wf4.out).mono ?_; rintro e wn ⟨rfl, za⟩; have zf := B.size; have zg := za.size; have hsx := hX.size; replace B := B.trans (za.mono B.size); replace hX := hX.trans (za.mono hX.size); try replace p3 := p3.below za
     try replace p4 := p4.below za
     refine hK _ _ ⟨fun _ => ⟨_, zG hX⟩, ?_⟩; clear hK K; simp only [zo]; refine qE (by kernel_rfl) (by kernel_rfl) ?_; simp only [List.drop_succ_cons, List.drop_zero]; go_wp2_with (first | (refine zq (t := 95) rfl _ _ rfl _ rfl _ rfl p3 (by kernel_rfl) rfl (by simp [Value.oneCell']) (qG B (by omega) ?_); clear p3 B; intro wn p3 ze zf zg B; (try replace p4 := p4.of_eq (ze.block _ p4.lt (by omega))); simp only [zo]) | (refine zq (t := 95) rfl _ _ rfl _ rfl _ rfl p4 (by kernel_rfl) rfl (by simp [Value.oneCell']) (qG B (by omega) ?_); clear p4 B; intro wn p4 ze zf zg B; (try replace p3 := p3.of_eq (ze.block _ p3.lt (by omega))); simp only [zo]) | fail)
     refine zL.normal ?_; go_wp2_with fail
     go_meet; exact ⟨b_p3, b_p4, rfl, rfl, B, by omega, by omega, p3, p4⟩
   ·skip
    refine zQ (t := 95) _ (z6 _ _ rfl) ?_; intro b_p4 wn zb zd ht za zg; have zf := B.size; have hsx := hX.size; replace B := B.trans (za.mono (by omega)); replace hX := hX.trans (za.mono (by omega)); try replace p3 := p3.below (za.mono zb)
    try replace p4 := p4.below (za.mono zb)
    have p4 := ht; clear ht; refine hK _ _ ⟨fun _ => ⟨_, zG hX⟩, ?_⟩; clear hK K; simp only [zo]; refine zR 5 rfl (by kernel_rfl) rfl (fun K hK => ?_); go_simp
    go_at_call 81
    refine (y7 c.x0 c.y0 _ wf1.out wf2.out).mono ?_; rintro e wn ⟨rfl, za⟩; have zf := B.size; have zg := za.size; have hsx := hX.size; replace B := B.trans (za.mono B.size); replace hX := hX.trans (za.mono hX.size); try replace p3 := p3.below za
    try replace p4 := p4.below za
    refine hK _ _ ⟨fun _ => ⟨_, zG hX⟩, ?_⟩; clear hK K; simp only [zo]; refine zR 13 rfl (by kernel_rfl) rfl (fun K hK => ?_); go_simp
    go_at_call 81
    refine (y7 (c.x1 - 1) (c.y1 - 1) _ wf3.out wf4.out).mono ?_; rintro e wn ⟨rfl, za⟩; have zf := B.size; have zg := za.size; have hsx := hX.size; replace B := B.trans (za.mono B.size); replace hX := hX.trans (za.mono hX.size); try replace p3 := p3.below za
    try replace p4 := p4.below za
    refine hK _ _ ⟨fun _ => ⟨_, zG hX⟩, ?_⟩; clear hK K; simp only [zo]; refine qE (by kernel_rfl) (by kernel_rfl) ?_; simp only [List.drop_succ_cons, List.drop_zero]; go_wp2_with (first | (refine zq (t := 95) rfl _ _ rfl _ rfl _ rfl p3 (by kernel_rfl) rfl (by simp [Value.oneCell']) (qG B (by omega) ?_); clear p3 B; intro wn p3 ze zf zg B; (try replace p4 := p4.of_eq (ze.block _ p4.lt (by omega))); simp only [zo]) | (refine zq (t := 95) rfl _ _ rfl _ rfl _ rfl p4 (by kernel_rfl) rfl (by simp [Value.oneCell']) (qG B (by omega) ?_); clear p4 B; intro wn p4 ze zf zg B; (try replace p3 := p3.of_eq (ze.block _ p3.lt (by omega))); simp only [zo]) | fail)
    refine zL.normal ?_; go_wp2_with fail
    go_meet; exact ⟨b_p3, b_p4, rfl, rfl, B, by omega, by omega, p3, p4⟩
  ·skip
   refine zQ (t := 95) _ (z6 _ _ rfl) ?_; intro b_p4 wn zb zd ht za zg; have zf := B.size; have hsx := hX.size; replace B := B.trans (za.mono (by omega)); replace hX := hX.trans (za.mono (by omega)); try replace p3 := p3.below (za.mono zb)
   try replace p4 := p4.below (za.mono zb)
   have p4 := ht; clear ht; refine hK _ _ ⟨fun _ => ⟨_, zG hX⟩, ?_⟩; clear hK K; simp only [zo]; refine jK 5 14 rfl rfl (by kernel_rfl) rfl rfl (fun K hK => ?_) (fun K hK => ?_)
   ·skip
    go_simp
    go_at_call 81
    refine (y7 c.x0 c.y0 _ wf1.out wf2.out).mono ?_; rintro e wn ⟨rfl, za⟩; have zf := B.size; have zg := za.size; have hsx := hX.size; replace B := B.trans (za.mono B.size); replace hX := hX.trans (za.mono hX.size); try replace p3 := p3.below za
    try replace p4 := p4.below za
    refine hK _ _ ⟨fun _ => ⟨_, zG hX⟩, ?_⟩; clear hK K; simp only [zo]; refine jK 13 14 rfl rfl (by kernel_rfl) rfl rfl (fun K hK => ?_) (fun K hK => ?_)
    ·skip
     go_simp
     go_at_call 81
     refine (y7 (c.x1 - 1) (c.y1 - 1) _ wf3.out wf4.out).mono ?_; rintro e wn ⟨rfl, za⟩; have zf := B.size; have zg := za.size; have hsx := hX.size; replace B := B.trans (za.mono B.size); replace hX := hX.trans (za.mono hX.size); try replace p3 := p3.below za
     try replace p4 := p4.below za
     refine hK _ _ ⟨fun _ => ⟨_, zG hX⟩, ?_⟩; clear hK K; simp only [zo]; refine zR 14 rfl (by kernel_rfl) rfl (fun K hK => ?_); refine zQ (t := 95) _ (z6 _ _ rfl) ?_; intro b_p3 wn zb zd ht za zg; have zf := B.size; have hsx := hX.size; replace B := B.trans (za.mono (by omega)); replace hX := hX.trans (za.mono (by omega)); try replace p3 := p3.below (za.mono zb)
     try replace p4 := p4.below (za.mono zb)
     have p3 := ht; clear ht; refine hK _ _ ⟨fun _ => ⟨_, zG hX⟩, ?_⟩; clear hK K; simp only [zo]; refine qE (by kernel_rfl) (by kernel_rfl) ?_; simp only [List.drop_succ_cons, List.drop_zero]; go_wp2_with (first | (refine zq (t := 95) rfl _ _ rfl _ rfl _ rfl p3 (by kernel_rfl) rfl (by simp [Value.oneCell']) (qG B (by omega) ?_); clear p3 B; intro wn p3 ze zf zg B; (try replace p4 := p4.of_eq (ze.block _ p4.lt (by omega))); simp only [zo]) | (refine zq (t := 95) rfl _ _ rfl _ rfl _ rfl p4 (by kernel_rfl) rfl (by simp [Value.oneCell']) (qG B (by omega) ?_); clear p4 B; intro wn p4 ze zf zg B; (try replace p3 := p3.of_eq (ze.block _ p3.lt (by omega))); simp only [zo]) | fail)
     refine zL.normal ?_; go_wp2_with fail
     go_meet; exact ⟨b_p3, b_p4, rfl, rfl, B, by omega, by omega, p3, p4⟩
    ·skip
     refine zQ (t := 95) _ (z6 _ _ rfl) ?_; intro b_p3 wn zb zd ht za zg; have zf := B.size; have hsx := hX.size; replace B := B.trans (za.mono (by omega)); replace hX := hX.trans (za.mono (by omega)); try replace p3 := p3.below (za.mono zb)
     try replace p4 := p4.below (za.mono zb)
     have p3 := ht; clear ht; refine hK _ _ ⟨fun _ => ⟨_, zG hX⟩, ?_⟩; clear hK K; simp only [zo]; refine zR 13 rfl (by kernel_rfl) rfl (fun K hK => ?_); go_simp
     go_at_call 81
     refine (y7 (c.x1 - 1) (c.y1 - 1) _ wf3.out wf4.out).mono ?_; rintro e wn ⟨rfl, za⟩; have zf := B.size; have zg := za.size; have hsx := hX.size; replace B := B.trans (za.mono B.size); replace hX := hX.trans (za.mono hX.size); try replace p3 := p3.below za
     try replace p4 := p4.below za
     refine hK _ _ ⟨fun _ => ⟨_, zG hX⟩, ?_⟩; clear hK K; simp only [zo]; refine qE (by kernel_rfl) (by kernel_rfl) ?_; simp only [List.drop_succ_cons, List.drop_zero]; go_wp2_with (first | (refine zq (t := 95) rfl _ _ rfl _ rfl _ rfl p3 (by kernel_rfl) rfl (by simp [Value.oneCell']) (qG B (by omega) ?_); clear p3 B; intro wn p3 ze zf zg B; (try replace p4 := p4.of_eq (ze.block _ p4.lt (by omega))); simp only [zo]) | (refine zq (t := 95) rfl _ _ rfl _ rfl _ rfl p4 (by kernel_rfl) rfl (by simp [Value.oneCell']) (qG B (by omega) ?_); clear p4 B; intro wn p4 ze zf zg B; (try replace p3 := p3.of_eq (ze.block _ p3.lt (by omega))); simp only [zo]) | fail)
     refine zL.normal ?_; go_wp2_with fail
     go_meet; exact ⟨b_p3, b_p4, rfl, rfl, B, by omega, by omega, p3, p4⟩
   ·skip
    refine zQ (t := 95) _ (z6 _ _ rfl) ?_; intro b_p3 wn zb zd ht za zg; have zf := B.size; have hsx := hX.size; replace B := B.trans (za.mono (by omega)); replace hX := hX.trans (za.mono (by omega)); try replace p3 := p3.below (za.mono zb)
    try replace p4 := p4.below (za.mono zb)
    have p3 := ht; clear ht; refine hK _ _ ⟨fun _ => ⟨_, zG hX⟩, ?_⟩; clear hK K; simp only [zo]; refine zR 5 rfl (by kernel_rfl) rfl (fun K hK => ?_); go_simp
    go_at_call 81
    refine (y7 c.x0 c.y0 _ wf1.out wf2.out).mono ?_; rintro e wn ⟨rfl, za⟩; have zf := B.size; have zg := za.size; have hsx := hX.size; replace B := B.trans (za.mono B.size); replace hX := hX.trans (za.mono hX.size); try replace p3 := p3.below za
    try replace p4 := p4.below za
    refine hK _ _ ⟨fun _ => ⟨_, zG hX⟩, ?_⟩; clear hK K; simp only [zo]; refine zR 13 rfl (by kernel_rfl) rfl (fun K hK => ?_); go_simp
    go_at_call 81
    refine (y7 (c.x1 - 1) (c.y1 - 1) _ wf3.out wf4.out).mono ?_; rintro e wn ⟨rfl, za⟩; have zf := B.size; have zg := za.size; have hsx := hX.size; replace B := B.trans (za.mono B.size); replace hX := hX.trans (za.mono hX.size); try replace p3 := p3.below za
    try replace p4 := p4.below za
    refine hK _ _ ⟨fun _ => ⟨_, zG hX⟩, ?_⟩; clear hK K; simp only [zo]; refine qE (by kernel_rfl) (by kernel_rfl) ?_; simp only [List.drop_succ_cons, List.drop_zero]; go_wp2_with (first | (refine zq (t := 95) rfl _ _ rfl _ rfl _ rfl p3 (by kernel_rfl) rfl (by simp [Value.oneCell']) (qG B (by omega) ?_); clear p3 B; intro wn p3 ze zf zg B; (try replace p4 := p4.of_eq (ze.block _ p4.lt (by omega))); simp only [zo]) | (refine zq (t := 95) rfl _ _ rfl _ rfl _ rfl p4 (by kernel_rfl) rfl (by simp [Value.oneCell']) (qG B (by omega) ?_); clear p4 B; intro wn p4 ze zf zg B; (try replace p3 := p3.of_eq (ze.block _ p3.lt (by omega))); simp only [zo]) | fail)
    refine zL.normal ?_; go_wp2_with fail
    go_meet; exact ⟨b_p3, b_p4, rfl, rfl, B, by omega, by omega, p3, p4⟩
 case rest =>
 clear B r0 r0B
 obtain ⟨b_p3, b_p4, rfl, rfl, B, k3, k4, p3, p4⟩ := hcut
 have hJ := HJ.out _ B
 have n3 : b_p3 ≠ b8 := by omega
 have n4 : b_p4 ≠ b8 := by omega
 clear B HJ
 go_upto_region 2 with fail
 refine wp_region_lit ?_
 refine zy 7 ?_
 refine wpList_nil ?_
 go_wp2
 go_loopw [5, 6, 29] (fun _ _ iv wr => ∃ k : Nat, k ≤ H ∧ iv = .int .i64 (k : Int) ∧ J (kw (K7 c) (W * k)) wr ∧ zK 95 wr b_p3 #[.int .i64 (c.x0 / 8), .int .i64 (c.y0 / 8)] ∧ zK 95 wr b_p4 #[.int .i64 ((c.x1 - 1) / 8), .int .i64 ((c.y1 - 1) / 8)]) (fun _ _ iv _ => (H - intOf iv).toNat)
 case atStart => exact ⟨0, by omega, by simp, by rw [Nat.mul_zero, zaF]; exact hJ, p3, p4⟩
 case round =>
  clear p3 p4 hJ; obtain ⟨k, hk, rfl, hJ, p3, p4⟩ := hrel; by_cases hkH : k < H
  ·have q1 : decide ((k : Int) < (c.y1 - 1) / 8 - c.y0 / 8 + 1) = true := decide_eq_true (by omega)
   have hn2 : W * k + W ≤ W * H := by
    have := Nat.mul_le_mul_left W (show k + 1 ≤ H from hkH); rw [Nat.mul_succ] at this; exact this
   go_upto_region 3 with fail
   refine wp_region_lit ?_; refine zy 1 ?_; refine wpList_nil ?_; go_upto_region 4 with fail
   refine wp_region_lit ?_; refine zy 2 ?_; refine wpList_nil ?_; go_upto_region 5 with fail
   refine wp_region_lit ?_; refine zy 7 ?_
   refine wpList_nil ?_; go_wp2; go_loopw [6, 38] (fun _ iv wr => ∃ j : Nat, j ≤ W ∧ iv = .int .i64 (j : Int) ∧ J (kw (K7 c) (W * k + j)) wr ∧ zK 95 wr b_p3 #[.int .i64 (c.x0 / 8), .int .i64 (c.y0 / 8)] ∧ zK 95 wr b_p4 #[.int .i64 ((c.x1 - 1) / 8), .int .i64 ((c.y1 - 1) / 8)]) (fun _ iv _ => (W - intOf iv).toNat)
   case atStart => exact ⟨0, by omega, by simp, hJ, p3, p4⟩
   case round =>
    clear p3 p4 hJ; obtain ⟨j, hj, rfl, hJ, p3, p4⟩ := hrel; by_cases hjW : j < W
    ·have q2 : decide ((j : Int) < (c.x1 - 1) / 8 - c.x0 / 8 + 1) = true := decide_eq_true (by omega)
     have zh : W * k + j < K7 c := by omega
     go_upto_region 6 with fail
     refine wp_region_lit ?_; refine zy 1 ?_; refine wpList_nil ?_; go_upto_region 7 with fail
     refine wp_region_lit ?_; refine zy 2 ?_; refine wpList_nil ?_; go_upto_region 8 with fail
     obtain ⟨fn, tmps, assign, body, hy, hR⟩ := HY.out (kw (K7 c) (W * k + j)) ⟨W * k + j, zh⟩ _ hJ (by rw [wj (by omega)]; exact zh)
     have ep : vp c ⟨W * k + j, zh⟩ = (c.x0 / 8 + (j : Int), c.y0 / 8 + (k : Int)) := HR.out k j hjW; rw [ep] at hy; try dsimp only at hy
     rw [← Zz zh] at hR; have c0 := p3.cellL 0 rfl; have c1 := p3.cellL 1 rfl; try dsimp only at c0 c1
     refine (wpIn_wide (n := n)).1 ?_; gi_wp2
     refine hR.mono ?_; rintro e W1 (⟨rfl, hJ1, hkp⟩ | ⟨rfl, hx1⟩)
     ·replace p3 := hkp.atB n3 p3
      replace p4 := hkp.atB n4 p4; clear c0 c1; gi_wp2
      go_wp2; go_roundw
      case rel => exact ⟨j + 1, by omega, by go_num, hJ1, p3, p4⟩
      case measure => simp [intOf]; omega
     ·gi_wp2
      go_wp2; refine bodyPost_ret (results_none rfl _ _ _) rfl ?_; exact ⟨⟨_, rfl⟩, .inr ⟨_, trivial, hx1⟩⟩
    ·obtain rfl : j = W := by omega
     have q2 : decide ((j : Int) < (c.x1 - 1) / 8 - c.x0 / 8 + 1) = false := decide_eq_false (by omega); go_upto_region 6 with fail
     refine wp_region_lit ?_; refine zy 1 ?_; refine wpList_nil ?_; go_upto_region 10 with fail
     refine wp_region_lit ?_; refine zy 2 ?_; refine wpList_nil ?_; go_wp2; go_roundw
     case rel => exact ⟨k + 1, by omega, by go_num, by rw [Nat.mul_succ]; exact hJ, p3, p4⟩
     case measure => simp [intOf]; omega
  ·obtain rfl : k = H := by omega
   have q1 : decide ((k : Int) < (c.y1 - 1) / 8 - c.y0 / 8 + 1) = false := decide_eq_false (by omega); go_upto_region 3 with fail
   refine wp_region_lit ?_; refine zy 1 ?_; refine wpList_nil ?_; go_wp2; go_end0
   have eF : kw (K7 c) (W * k) = List.finRange (K7 c) := by rw [← hew]; exact QW _
   rw [eF] at hJ; exact ⟨⟨_, rfl⟩, .inl ⟨_, rfl, hJ⟩⟩
/- Contract of Paste of package raster, where the rectangle fits. -/
attribute [local go_sem] Oper.semAt_some
set_option linter.unusedVariables false
set_option linter.unusedSimpArgs false
set_option maxRecDepth 20000
theorem Yb (w : World) (o : Oper) (ho : o.op = .alloc 62) (ev : Operand → Value) : (execOp ev o).run Tryz.prog w = .ok (.value (.pointer (some ⟨w.heap.size, 0, none⟩))) (w.alloc (.cells #[.slice none 0 0] 62)) := by
 obtain ⟨d, p, t, ps, af, gd⟩ := o
 simp only at ho
 subst ho
 kernel_rfl
/-- A slice stored into its own cell. -/
theorem xK {v : Value} {ops : Array Oper} {rest : List Oper} {o : Oper} {a : Act} {w : World} {Q : Exit → Act → World → Prop} (hg : o.guard = none) (x y : Operand) (ho : o.op = .store 62 x y) (b : Nat) (hx : a.eval x = .pointer (some ⟨b, 0, none⟩)) (a' : Option Addr) (n' c' : Nat) (hy : a.eval y = .slice a' n' c') (ht : zK 62 w b #[v])
  (h : ∀ w', zK 62 w' b #[.slice a' n' c'] → qV b w w' → w'.heap.size = w.heap.size → wpList Tryz.prog ops Q rest (a.put o.dst undef) w') : wpList Tryz.prog ops Q (o :: rest) a w := by
 have c0 := ht.cell 0 rfl
 have f0 := ht.frozen 0
 refine qk hg x y ho (w.setCell ⟨b, 0, none⟩ (.slice a' n' c')) ?_ (h _ ?_ ((qV.refl b w).setCell _) (by simp only [World.size_setCell]))
 ·rw [hx, hy]
  simp [go_sem, c0, f0]
 ·exact heap_setCell_same w b 0 #[v] _ _ ht
theorem qv {ops : Array Oper} {rest : List Oper} {o : Oper} {a : Act} {w : World} {Q : Exit → Act → World → Prop} (hg : o.guard = none) (v : Value) (hrun : (execOp a.eval o).run Tryz.prog w = .ok (.value v) w)
  (h : wpList Tryz.prog ops Q rest (a.put o.dst v) w) : wpList Tryz.prog ops Q (o :: rest) a w :=
 wpList_plain hg fun K hK => by
  unfold Oper.wp; rw [hrun]; exact hK _ _ h
theorem zcq (x y : Int) : Instr.fill (fun i => #[(0, 2), (2, 256)][i]?) zTA [(0, Ps.v x y)] = some (xX ⟨x, y, zT⟩) := by
 obtain ⟨r, hs, hr, e⟩ := wQ (place := fun i => #[(0, 2), (2, 256)][i]?) (cells := zTA) (i := 0) (v := Ps.v x y) (rest := []) (off := 0) (sz := 2) rfl (by rw [uS]; rfl) (by rw [jl]; omega)
 rw [e]
 show some r = _
 congr 1
 apply Array.ext_getElem?
 intro k
 rw [hr k, wX, uS]
 by_cases h2 : k < 2
 ·rw [if_pos (by omega), if_pos h2, Nat.sub_zero]
 ·rw [if_neg (by omega), if_neg h2]
  have hz : zTA[k]? = (qT zT)[k - 2]? := by
   have e : zTA = #[.int .i64 0, .int .i64 0] ++ qT zT := by unfold zTA; kernel_rfl
   rw [e, Array.getElem?_append_right (by simp; omega)]
   rfl
  exact hz
theorem JL (w : World) (x y : Int) : (Instr.build 125 #[(0, Ps.v x y)]).run Tryz.prog w = .ok (.agg (xX ⟨x, y, zT⟩)) w :=
 run_build w 125 #[(0, Ps.v x y)] _ ((YR _).trans (zcq x y))
theorem zF {o : Oper} {a : Act} {C : World → Prop} {K : Act → Prop} {p : Operand} (h : o.op = .build 125 #[(0, p)]) (x y : Int) (hp : a.eval p = .agg #[.int .i64 x, .int .i64 y]) (hk : K (a.put o.dst (.agg (xX ⟨x, y, zT⟩)))) : o.quiet Tryz.prog a C K :=
 ⟨_, fun w hw => by
  have r := JL w x y; simp only [Ps.v] at r; unfold Oper.quietAt execOp; simp only [h, List.map_toArray, List.map_cons, List.map_nil, hp, Sem.run_bind, r, Result.andThen_ok, Sem.run_pure]; exact ⟨rfl, rfl⟩, hk⟩
theorem Vw {b : Nat} {w w' : World} (h : qV b w w') (e : w'.heap[b]? = w.heap[b]?) : Below w.heap.size w w' :=
 ⟨h.os, h.tape, h.output, h.size, fun k hk => by
  by_cases hb : k = b
  ·subst hb; exact e
  ·exact h.block k hk hb⟩
theorem zW.ownP {g o : Nat} {ls : List Px} {A B : World} {row : Option Nat} (h : zW kI g o ls A) (hn : 0 < ls.length) (hg : A.grownBy B row) (hr : ∀ r, row = some r → ∃ o : Obj, A.heap[r]? = some o ∧ o.isCells = false) : zW kI g o ls B := by
 refine h.of_eq (hg.block g h.lt fun e => ?_)
 obtain ⟨x, hx, hc⟩ := hr g e.symm
 have h0 := h.2 0 _ (List.getElem?_eq_getElem hn) 0 (by omega)
 have hs : ∃ v, (kI.enc ls[0])[0]? = some v := ⟨_, rfl⟩
 obtain ⟨v, hv⟩ := hs
 rw [hv] at h0
 have := QP h0 x hx
 rw [hc] at this
 cases this
/-- The pixels of one tile turned by the paste. -/
theorem YK (c : Rc) (hf : xo c) (L : List Px) (hL : L.length = areaN c) (okL : OkL L) (e : TA) (a : Option Addr) (cp0 : Nat) (bc bm cb g o cp : Nat) (z : Nat → Px) (w : World) (rs : RS (.slice a 1 cp0) [e] w) (tk : Zr e.t) (hw : z8 e.x e.y = true) (r0 : zK 38 w bc (jV c)) (m0 : zK 117 w bm (xA c (.slice (some ⟨g, o, none⟩) (areaN c) cp))) (ce : zW kI g o L w) (tz : zX w cb z) (hsep : (Value.slice a 1 cp0).ownBlock ≠ some cb) :
  Calls Tryz.prog 126 #[.slice a 1 cp0, .func (.func 131) #[] #[.pointer (some ⟨bc, 0, none⟩), .pointer (some ⟨bm, 0, none⟩)]] w fun e' w' => ∃ a' cp', e' = .returned (.slice a' (jm e.x e.y (xw c L e.x e.y e.t)).length cp') ∧ RS (.slice a' (jm e.x e.y (xw c L e.x e.y e.t)).length cp') (jm e.x e.y (xw c L e.x e.y e.t)) w' ∧ Below w.heap.size w w' := by
 have eg := enters_of Tryz.func131 (by kernel_rfl) rfl
 have l1 := r0.lt
 have l2 := m0.lt
 have l3 := ce.lt
 have l4 := tz.lt
 refine (YL (VR c L) (fun _ W => zK 38 W bc (jV c) ∧ zK 117 W bm (xA c (.slice (some ⟨g, o, none⟩) (areaN c) cp)) ∧ zW kI g o L W ∧ zX W cb z) cb 131 #[.pointer (some ⟨bc, 0, none⟩), .pointer (some ⟨bm, 0, none⟩)] eg _ [e] () w rs (fun x hx => by rcases List.mem_singleton.1 hx with rfl; exact tk) (by simp) (fun x hx => by rcases List.mem_singleton.1 hx with rfl; exact hw) l4 (fun _ => hsep) ⟨r0, m0, ce, tz⟩
  (fun s W W' hI hk => ⟨hI.1.of_eq (hk _ l1), hI.2.1.of_eq (hk _ l2), hI.2.2.1.of_eq (hk _ l3), hI.2.2.2.of_eq (hk _ l4)⟩)
  (fun s W x y p _ hI h1 h2 h3 h4 hp => (zbN c hf L hL okL x y p hp bc bm g o cp W hI.1 hI.2.1 hI.2.2.1).mono fun e' W' ⟨he, hb⟩ => ⟨he, ⟨hI.1.of_eq (hb.block _ hI.1.lt), hI.2.1.of_eq (hb.block _ hI.2.1.lt), hI.2.2.1.of_eq (hb.block _ hI.2.2.1.lt), hI.2.2.2.of_eq (hb.block _ hI.2.2.2.lt)⟩, qV.of_below hb⟩)
  (fun s x y p hp => W7 okL x y p hp)).mono ?_
 rintro e' w' ⟨v', rfl, od, hI, hcc⟩
 have hm : (kh (VR c L) [e] () [e].length).2 = jm e.x e.y (xw c L e.x e.y e.t) := zcO c L e
 rw [hm] at od
 have hb := Vw hcc (by rw [show w'.heap[cb]? = _ from hI.2.2.2, show w.heap[cb]? = _ from tz])
 obtain ⟨a', cp', rfl, _⟩ := od.len
 exact ⟨a', cp', rfl, od.rs, hb⟩
theorem We (v : Value) (ls : List TA) (x y : Int) (k : Nat) (b : Bool) (w : World) (h : RS v ls w) (hs : uO ls) (hn : ls.length ≤ 1000000) (hk : cutL ls x y = k) (hb : y6 ls x y = b) : Calls Tryz.prog 130 #[v, .agg #[.int .i64 x, .int .i64 y]] w fun e w' => e = .returned (.tuple #[.int .i64 (k : Int), .bool b]) ∧ Below w.heap.size w w' := by
 subst hk hb
 exact uu v ls x y w h hs hn
theorem Yr {F : Fence} {n : Nat} {P : Program} {c : Code} {Q : Exit → Act → World → Prop} {W : World} {t : Array Value} {p : Tmp} {v : Value} (h : c.wpIn F n P Q { tmps := t.setIfInBounds p v, defers := [] } W) :
  c.wpIn F n P Q { tmps := (#[p].zip #[v]).foldl (fun t (p, v) => t.setIfInBounds p v) t, defers := [] } W := by
 have e : (#[p].zip #[v]).foldl (fun t (p, v) => t.setIfInBounds p v) t = t.setIfInBounds p v := by
  show Array.foldl _ t (Array.zip (List.toArray [p]) (List.toArray [v])) = _
  rw [List.zip_toArray]; simp
 rw [e]
 exact h
theorem Vv (t : Array Value) (n : Nat) (h : t.size = n) : ∃ U : Nat → Value, t = ((List.range n).map U).toArray ∧ ∀ i, U i = t.getD i undef := by
 refine ⟨fun i => t.getD i undef, ?_, fun _ => rfl⟩
 apply Array.ext_getElem?
 intro k
 by_cases hk : k < n
 ·simp [hk, h]
 ·simp [hk, h]
/-- A block of deferred calls, empty. -/
def yU (w : World) (D : Nat) : Prop := w.heap[D]? = some (.deferred (some []))
theorem yU.of_eq {w w' : World} {D : Nat} (h : yU w D) (e : w'.heap[D]? = w.heap[D]?) : yU w' D := e.trans h
theorem yU.lt {w : World} {D : Nat} (h : yU w D) : D < w.heap.size := (Array.getElem?_eq_some_iff.1 h).1
theorem yU.below {w w' : World} {D : Nat} (h : yU w D) (e : Below w.heap.size w w') : yU w' D := h.of_eq (e.block _ h.lt)
theorem yU.cg {w w' : World} {D : Nat} (h : yU w D) {zc : Nat} (e : qV zc w w') (hn : D ≠ zc := by omega) : yU w' D := h.of_eq (e.block _ h.lt hn)
theorem yU.ne {w : World} {D b : Nat} {t : TypeId} {cs : Array Value} (h : yU w D) (k : zK t w b cs) : b ≠ D := fun e => by
 subst e
 have k' : w.heap[b]? = _ := k
 rw [show w.heap[b]? = _ from h] at k'
 cases k'
theorem zf1 {g o : Nat} {ls : List TA} {w : World} (sc : qt g o ls w) {k : Nat} (hk : k < ls.length) : RS (.slice (some ⟨g, o + k * 258, none⟩) 1 1) [aT ls k] w := by
 refine .inr ⟨g, o + k * 258, 1, rfl, Nat.le_refl _, fun _ => ⟨sc.1, fun i hi j hj => ?_⟩⟩
 obtain rfl : i = 0 := by simpa using hi
 have := sc.2 k hk j hj
 rw [show o + k * 258 + (0 * 258 + j) = o + (k * 258 + j) by omega, this]
 rfl
set_option maxHeartbeats 8000000 in
theorem Vo (v : Value) (ls : List TA) (c : Rc) (u : Value) (L : List Px) (w : World) (h : RS v ls w) (tk : qN ls) (hn : ls.length ≤ maxLen) (hE : jL c = 0) (hu : xp kI u L w) (hL : L.length = areaN c) (okL : OkL L) : Calls Tryz.prog 77 #[.agg #[v], .agg (xA c u)] w fun e w' => ∃ a cp, e = .returned (.tuple #[.agg #[.slice a (xQ (xP c L (qc ls) (yY c))).length cp], .int .i64 (kx (xP c L (qc ls) (yY c)))]) ∧ RS (.slice a (xQ (xP c L (qc ls) (yY c))).length cp) (xQ (xP c L (qc ls) (yY c))) w' ∧ Below w.heap.size w w' := by
 have B := Below.refl w.heap.size w
 obtain ⟨a', c', hT⟩ := Qj v ls w h tk hn
 have HT := Lib.hid hT
 clear hT
 obtain ⟨a, cpv, rfl, hc⟩ := h.len
 have HF := yM hE
 have FT := Lib.hid HF
 obtain ⟨an1, an2⟩ := Qm HF
 have hAN := Lib.hid (QG HF)
 have HV := Lib.hid HF.valid
 obtain ⟨ad, cu, rfl, hcu⟩ := hu.len
 obtain ⟨g, o, rfl, ce⟩ := hu.at (by have := QG HF; omega)
 have SR := Lib.hid (jC (jG ls))
 have TK := Lib.hid (yL tk)
 have hfl := yt ls
 have hNle := zdH HF
 have OK := Lib.hid okL
 have HL := Lib.hid hL
 have HEE := Lib.hid hE
 have d1 : ((areaN c : Int) != (areaN c : Int)) = false := by simp
 rw [hL]
 rw [hL] at hcu
 clear h tk hu okL hL hE HF
 generalize hks : qc ls = KS at *
 refine (callsIn_wide (n := 3)).1 ?_
 refine callsIn_of_wp_marks Tryz.func77 rfl trivial ?_ rfl
 simp only [Tryz.ntmps77, List.size_toArray, List.length_cons, List.length_nil, Nat.reduceAdd, Nat.reduceSub, Array.replicate_succ, Array.replicate_zero, List.push_toArray, List.append_toArray, List.nil_append, List.cons_append]
 refine wpIn_wide.2 ?_
 go_upto_region 0 with fail
 refine wp_region_lit ?_
 try simp only [zM]
 (refine zt (t := 64) rfl _ rfl _ rfl ?_; intro b_r2 wn zb zd ht za zg; have zf := B.size; replace B := B.trans (za.mono (by omega)); have zk := Nat.lt_of_lt_of_eq (Nat.lt_succ_self _) zg.symm; clear zg; (try have zh := ce.lt); (try replace ce := ce.below (za.mono zb)); have r2 := ht; clear ht; simp only [zo])
 (refine zt (t := 117) rfl _ rfl _ rfl ?_; intro b_m3 wn zb zd ht za zg; have zf := B.size; replace B := B.trans (za.mono (by omega)); have zk := Nat.lt_of_lt_of_eq (Nat.lt_succ_self _) zg.symm; clear zg; (try have zh := r2.lt); (try replace r2 := r2.below (za.mono zb)); (try have zh := ce.lt); (try replace ce := ce.below (za.mono zb)); have m3 := ht; clear ht; simp only [zo])
 (refine zr (t := 64) rfl _ (qA _ _ rfl) ?_; intro b_r4 wn zb zd ht za zg; have zf := B.size; replace B := B.trans (za.mono (by omega)); have zk := Nat.lt_of_lt_of_eq (Nat.lt_succ_self _) zg.symm; clear zg; (try have zh := r2.lt); (try replace r2 := r2.below (za.mono zb)); (try have zh := m3.lt); (try replace m3 := m3.below (za.mono zb)); (try have zh := ce.lt); (try replace ce := ce.below (za.mono zb)); have r4 := ht; clear ht; simp only [zo])
 refine zy 1 ?_
 refine wpList_nil ?_
 go_upto_region 1 with fail
 refine wp_region_lit ?_
 try simp only [zM]
 refine j4 2 ?_
 repeat (first | go_big_quiet_skip | (go_big_quiet_want; first | ((first | refine zn (t := 38) rfl _ _ _ rfl (fun w hw => qL (zB m3 w hw)) (by first | rfl | omega) ?_ | refine qB ?_ | refine qC ?_); simp only [zo]; go_big_quiet_on) | (go_big_quiet_op; go_big_quiet_on)))
 refine wpQuiet_nil ?_
 (refine zr (t := 38) rfl _ (zZ _ _ rfl) ?_; intro b_c6 wn zb zd ht za zg; have zf := B.size; replace B := B.trans (za.mono (by omega)); have zk := Nat.lt_of_lt_of_eq (Nat.lt_succ_self _) zg.symm; clear zg; (try have zh := r2.lt); (try replace r2 := r2.below (za.mono zb)); (try have zh := m3.lt); (try replace m3 := m3.below (za.mono zb)); (try have zh := r4.lt); (try replace r4 := r4.below (za.mono zb)); (try have zh := c6.lt); (try replace c6 := c6.below (za.mono zb)); (try have zh := ce.lt); (try replace ce := ce.below (za.mono zb)); have c6 := ht; clear ht; simp only [zo])
 (refine zq (t := 38) rfl _ _ rfl _ rfl _ rfl c6 (by kernel_rfl) rfl (by simp [jV, xA, Value.oneCell']) (qG B (by omega) ?_); clear c6 B; intro wn c6 ze zf zg B; (try replace r2 := r2.of_eq (ze.block _ r2.lt (by omega))); (try replace m3 := m3.of_eq (ze.block _ m3.lt (by omega))); (try replace r4 := r4.of_eq (ze.block _ r4.lt (by omega))); (try replace ce := ce.of_eq (ze.block _ ce.lt (by omega))); simp only [zo])
 refine wpList_nil ?_
 replace c6 : zK 38 _ b_c6 (jV c) := c6
 go_upto_region 2 with fail
 try simp only [zM]
 try have lx_r2 := r2.lt
 try have lx_m3 := m3.lt
 try have lx_r4 := r4.lt
 try have lx_c6 := c6.lt
 try have lx_ce := ce.lt
 refine zJ 11 [(1, zN ?v1_1), (6, zN ?v1_6), (8, zN ?v1_8)] (by kernel_rfl) (by kernel_rfl) (by kernel_rfl) ?_
 rotate_left 3
 simp only [jZ, Nat.reduceAdd]
 refine ub 1 ?_
 repeat (first | go_big_quiet_skip | (go_big_quiet_want; first | ((first | refine zn (t := 38) rfl _ _ _ rfl (fun w hw => qL (zB m3 w hw)) (by first | rfl | omega) ?_ | refine qB ?_ | refine qC ?_); simp only [zo]; go_big_quiet_on) | (go_big_quiet_op; go_big_quiet_on)))
 refine wpQuiet_nil ?_
 refine zD (by rfl) (by first | rfl | simp [Region.wanted, yielded]) ?_ ?_
 ·intro wn za hE Kx hKx
  have zf := B.size; have zg := za.size; replace B := B.trans (za.mono B.size)
  (try replace r2 := r2.below za)
  (try replace m3 := m3.below za)
  (try replace r4 := r4.below za)
  (try replace c6 := c6.below za)
  (try replace ce := ce.below za)
  refine zP rfl (enters_of Tryz.func128 (by kernel_rfl) rfl) (by simp only [Act.eval, qI]; rfl) ?_
  refine (wI c true _ HV.out).mono ?_; rintro e wm ⟨rfl, zl⟩; refine ⟨_, rfl, ?_⟩; have hz := hKx () wm trivial zl
  dsimp only [zN] at hz
  exact hz
 rintro ⟨⟩
 dsimp only [zN]
 simp only [zo]
 refine ub 4 ?_
 repeat (first | go_big_quiet_skip | (go_big_quiet_want; first | ((first | refine zn (t := 115) rfl _ _ _ rfl (fun w hw => xh (uA (zB m3 w hw))) (by first | rfl | omega) ?_ | refine qB ?_ | refine qC ?_); simp only [zo]; go_big_quiet_on) | (go_big_quiet_op; go_big_quiet_on)))
 refine wpQuiet_nil ?_
 refine zD (by rfl) ?hw1_6 ?_ ?_
 case hw1_6 => kernel_rfl
 ·intro wn za hE Kx hKx
  have zf := B.size; have zg := za.size; replace B := B.trans (za.mono B.size)
  (try replace r2 := r2.below za)
  (try replace m3 := m3.below za)
  (try replace r4 := r4.below za)
  (try replace c6 := c6.below za)
  (try replace ce := ce.below za)
  refine Zl rfl Tryz.underlying115 rfl ?_; exact hKx () _ trivial (Below.refl _ _)
 rintro ⟨⟩
 dsimp only [zN]
 simp only [zo]
 refine ub 1 ?_
 repeat (first | go_big_quiet_skip | (go_big_quiet_want; first | ((first | refine zn (t := 38) rfl _ _ _ rfl (fun w hw => qL (zB m3 w hw)) (by first | rfl | omega) ?_ | refine qB ?_ | refine qC ?_); simp only [zo]; go_big_quiet_on) | (go_big_quiet_op; go_big_quiet_on)))
 refine wpQuiet_nil ?_
 refine zD (by rfl) ?hw1_8 ?_ ?_
 case hw1_8 => kernel_rfl
 ·intro wn za hE Kx hKx
  have zf := B.size; have zg := za.size; replace B := B.trans (za.mono B.size)
  (try replace r2 := r2.below za)
  (try replace m3 := m3.below za)
  (try replace r4 := r4.below za)
  (try replace c6 := c6.below za)
  (try replace ce := ce.below za)
  refine zP rfl (enters_of Tryz.func125 (by kernel_rfl) rfl) (by simp only [Act.eval, qI]; rfl) ?_
  refine (Xr c (areaN c : Int) _ HV.out hAN.out).mono ?_; rintro e wm ⟨rfl, zl⟩; refine ⟨_, rfl, ?_⟩; have hz := hKx () wm trivial zl
  dsimp only [zN] at hz
  exact hz
 rintro ⟨⟩
 dsimp only [zN]
 simp only [zo]
 refine kX 2 ?_
 refine qi ?_
 intro wn za hE
 have zf := B.size
 have zg := za.size
 replace B := B.trans (za.mono B.size)
 (try replace r2 := r2.below za)
 (try replace m3 := m3.below za)
 (try replace r4 := r4.below za)
 (try replace c6 := c6.below za)
 (try replace ce := ce.below za)
 clear hE
 try simp only [List.drop_succ_cons, List.drop_zero]
 refine zL.normal ?_
 go_upto_region 4 with fail
 refine wp_region_lit ?_
 try simp only [zM]
 refine j4 1 ?_
 repeat (first | go_big_quiet_skip | (go_big_quiet_want; first | ((first | refine zn (t := 38) rfl _ _ _ rfl (fun w hw => qL (zB m3 w hw)) (by first | rfl | omega) ?_ | refine qB ?_ | refine qC ?_); simp only [zo]; go_big_quiet_on) | (go_big_quiet_op; go_big_quiet_on)))
 refine wpQuiet_nil ?_
 refine je (enters_of Tryz.func124 (by kernel_rfl) rfl) (c := Wf c 0 _ HEE.out) (h := ?_)
 rintro e wn ⟨rfl, za⟩
 have zf := B.size
 have zg := za.size
 replace B := B.trans (za.mono B.size)
 (try replace r2 := r2.below za)
 (try replace m3 := m3.below za)
 (try replace r4 := r4.below za)
 (try replace c6 := c6.below za)
 (try replace ce := ce.below za)
 refine ⟨_, rfl, ?_⟩
 simp only [zo]
 refine zy 1 ?_
 refine wpList_nil ?_
 go_upto_region 5 with fail
 refine wp_region_lit ?_
 try simp only [zM]
 refine zy 2 ?_
 refine wpList_nil ?_
 go_upto_region 7 with fail
 have rs1 := (HT.out _ B).2
 refine wp_region_lit ?_
 try simp only [zM]
 refine zy 1 ?_
 refine je (enters_of Tryz.func104 (by kernel_rfl) rfl) (c := (HT.out _ B).1) (h := ?_)
 rintro e wn ⟨rfl, za⟩
 have zf := B.size
 have zg := za.size
 replace B := B.trans (za.mono B.size)
 (try replace r2 := r2.below za)
 (try replace m3 := m3.below za)
 (try replace r4 := r4.below za)
 (try replace c6 := c6.below za)
 (try replace ce := ce.below za)
 replace rs1 := rs1.below za
 refine ⟨_, rfl, ?_⟩
 simp only [zo]
 (refine zr (t := 62) rfl _ (Yb _ _ rfl) ?_; intro b_l8 wn zb zd ht za zg; have zf := B.size; replace B := B.trans (za.mono (by omega)); have zk := Nat.lt_of_lt_of_eq (Nat.lt_succ_self _) zg.symm; clear zg; (try have zh := r2.lt); (try replace r2 := r2.below (za.mono zb)); (try have zh := m3.lt); (try replace m3 := m3.below (za.mono zb)); (try have zh := r4.lt); (try replace r4 := r4.below (za.mono zb)); (try have zh := c6.lt); (try replace c6 := c6.below (za.mono zb)); (try have zh := ce.lt); (try replace ce := ce.below (za.mono zb)); (try have zh := rs1.lt); (try replace rs1 := rs1.below (za.mono zb)); have l8 := ht; clear ht; simp only [zo])
 (refine xK rfl _ _ rfl _ rfl _ _ _ rfl l8 (qG B (by omega) ?_); have l8o := l8; clear l8 B; intro wn l8 ze zf zg B; (try replace rs1 := rs1.chg l8o (by simp) ze); (try replace r2 := r2.of_eq (ze.block _ r2.lt (by omega))); (try replace m3 := m3.of_eq (ze.block _ m3.lt (by omega))); (try replace r4 := r4.of_eq (ze.block _ r4.lt (by omega))); (try replace c6 := c6.of_eq (ze.block _ c6.lt (by omega))); (try replace ce := ce.of_eq (ze.block _ ce.lt (by omega))); simp only [zo])
 refine wpList_nil ?_
 have k2 : w.heap.size ≤ b_r2 := by omega
 have k3 : b_r2 < b_m3 := by have := r2.lt; omega
 have k4 : b_m3 < b_r4 := by have := m3.lt; omega
 have k6 : b_r4 < b_c6 := by have := r4.lt; omega
 have k8 : b_c6 < b_l8 := by have := c6.lt; omega
 have k9 := l8.lt
 have kg := ce.lt
 go_upto_region 8 with fail
 refine wp_region_lit ?_
 try simp only [zM]
 refine j4 1 ?_
 repeat (first | go_big_quiet_skip | (go_big_quiet_want; first | ((first | refine zn (t := 38) rfl _ _ _ rfl (fun w hw => qL (zB m3 w hw)) (by first | rfl | omega) ?_ | refine qB ?_ | refine qC ?_); simp only [zo]; go_big_quiet_on) | (go_big_quiet_op; go_big_quiet_on)))
 refine wpQuiet_nil ?_
 refine je (enters_of Tryz.func129 (by kernel_rfl) rfl) (c := zdW c _) (h := ?_)
 rintro e wn ⟨b_t, rfl, hbt, rt, za⟩
 have zf := B.size
 have zg := za.size
 replace B := B.trans (za.mono B.size)
 (try replace m3 := m3.below za)
 (try replace r4 := r4.below za)
 (try replace c6 := c6.below za)
 (try replace ce := ce.below za)
 (try replace l8 := l8.below za)
 (try replace rs1 := rs1.below za)
 refine ⟨_, rfl, ?_⟩
 simp only [zo]
 refine wpList_nil ?_
 go_wp2
 refine (wpIn_wide (n := 3)).1 ?_
 refine Jh (F := Fence.wide) rfl (by omega) (gf := 163) (lb := #[.pointer (some ⟨b_t, 0, none⟩)]) rfl trivial (enters_of Tryz.func163 (by kernel_rfl) rfl) (K6 c FT.out b_t b_l8 _ (by omega) _ rt l8.lt) (fun h k => JH.trans h k) (fun W l o o' _ hl ho _ => JH.putObj b_l8 o' hl ho) (fun A B h => JH.below h) (Below.refl _ _) (fun _ => rfl)
  (fun pre W => ∃ (a : Option Addr) (cp : Nat), zK 62 W b_l8 #[.slice a (xP c L KS (pre.map (vp c))).length cp] ∧ RS (.slice a (xP c L KS (pre.map (vp c))).length cp) (xP c L KS (pre.map (vp c))) W ∧ zK 117 W b_m3 (xA c (.slice (some ⟨g, o, none⟩) (areaN c) cu)) ∧ zK 38 W b_c6 (jV c) ∧ zK 64 W b_r4 #[.slice none 0 0] ∧ zW kI g o L W ∧ Below w.heap.size w W)
  (fun pre W W' row hI hg hr => ?own)
  ⟨a', c', l8, rs1, m3, c6, r4, ce, B⟩
  (fun x a' W => ∃ b9 : Nat, a'.defers = [] ∧ a'.tmps.size = 78 ∧ a'.tmps.getD 3 undef = .pointer (some ⟨b_m3, 0, none⟩) ∧ a'.tmps.getD 6 undef = .pointer (some ⟨b_c6, 0, none⟩) ∧ a'.tmps.getD 8 undef = .pointer (some ⟨b_l8, 0, none⟩) ∧ a'.tmps.getD 9 undef = .pointer (some ⟨b9, 0, none⟩) ∧ zK 95 W b9 #[.int .i64 (vp c x).1, .int .i64 (vp c x).2] ∧ b_l8 < b9)
  (fun x a' W W' row hA hg hr => ?own2) ?assign ?body ?done
 case own =>
  obtain ⟨a, cp, h1, h2, h3, h4, h5, h6, h7⟩ := hI; have hr' : ∀ r, row = some r → ∃ o : Obj, W.heap[r]? = some o ∧ o.isCells = false := fun r e => (hr r e).2
  have hsz1 := B.size; exact ⟨a, cp, h1.own hg hr', h2.own hg hr', h3.own hg hr', h4.own hg hr', h5.own hg hr', h6.ownP (by rw [HL.out]; omega) hg hr', wL h7 h7.size hg (fun r e => Nat.le_trans hsz1 (hr r e).1)⟩
 case own2 =>
  obtain ⟨b9, e1, e2, e3, e4, e5, e6, h1, h2⟩ := hA; exact ⟨b9, e1, e2, e3, e4, e5, e6, h1.own hg (fun r e => (hr r e).2), h2⟩
 case assign =>
  intro l pre x W K ⟨_, _, hl8, _⟩ hK; have B := Below.refl W.heap.size W; have hl := hl8.lt; obtain ⟨⟨X, Y⟩, hxy⟩ : ∃ p, vp c x = p := ⟨_, rfl⟩; rw [hxy] at hK
  dsimp only at hK
  rw [hxy]
  dsimp only
  refine Yr ?_; simp only [List.setIfInBounds_toArray, List.set_cons_succ, List.set_cons_zero]; refine zE (by kernel_rfl) ?_; try simp only [zM]
  (refine zr (t := 95) rfl _ (z6 _ _ rfl) ?_; intro b_p9 wn zb zd ht za zg; have zf := B.size; replace B := B.trans (za.mono (by omega)); have zk := Nat.lt_of_lt_of_eq (Nat.lt_succ_self _) zg.symm; clear zg; have p9 := ht; clear ht; simp only [zo])
  (refine zq (t := 95) rfl _ _ rfl _ rfl _ rfl p9 (by kernel_rfl) rfl (by simp [Value.oneCell']) (qG B (by omega) ?_); clear p9 B; intro wn p9 ze zf zg B; simp only [zo])
  refine wpList_nil ?_; refine qw.at ?_; refine hK _ _ B ⟨_, rfl, rfl, rfl, rfl, rfl, rfl, p9, by omega⟩
 case body =>
  rintro l pre x W ⟨tm, df⟩ ⟨a, cp, l8, rs1, m3, c6, r4, ce, BW⟩ ⟨b9, e1, e2, e3, e4, e5, e6, p9, k10⟩ hpre; obtain ⟨U, hU, hUi⟩ := Vv tm 78 e2; rw [← hUi] at e3 e4 e5 e6; have eL : ((List.range 78).map U).toArray = #[U 0, U 1, U 2, U 3, U 4, U 5, U 6, U 7, U 8, U 9, U 10, U 11, U 12, U 13, U 14, U 15, U 16, U 17, U 18, U 19, U 20, U 21, U 22, U 23, U 24, U 25, U 26, U 27, U 28, U 29, U 30, U 31, U 32, U 33, U 34, U 35, U 36, U 37, U 38, U 39, U 40, U 41, U 42, U 43, U 44, U 45, U 46, U 47, U 48, U 49, U 50, U 51, U 52, U 53, U 54, U 55, U 56, U 57, U 58, U 59, U 60, U 61, U 62, U 63, U 64, U 65, U 66, U 67, U 68, U 69, U 70, U 71, U 72, U 73, U 74, U 75, U 76, U 77] := rfl; rw [eL] at hU; rw [e3, e4, e5, e6] at hU; subst hU; have e1 : df = [] := e1; subst e1; clear e2 e3 e4 e5 e6 hUi eL; obtain ⟨⟨X, Y⟩, hxy⟩ : ∃ p, vp c x = p := ⟨_, rfl⟩; have hwi := W5 FT.out x.isLt; rw [show ZG c x.val = (X, Y) from hxy] at hwi
  have HWI := Lib.hid hwi; rw [hxy] at p9
  dsimp only at p9
  have hMn := Kv c L (pre.map (vp c)) KS; rw [List.length_map] at hMn; have SM0 := Jd c L (pre.map (vp c)) KS SR.out; have TM0 := Ky OK.out (pre.map (vp c)) KS TK.out (c := c); have HNEW0 : xP c L KS ((pre ++ [x]).map (vp c)) = xS (xP c L KS (pre.map (vp c))) X Y (xw c L X Y (zU (xP c L KS (pre.map (vp c))) X Y)) := by
   rw [List.map_append, show [x].map (vp c) = [(X, Y)] from by rw [← hxy]; rfl, za1]
   rfl
  generalize xP c L KS (pre.map (vp c)) = M at *
  have SM := Lib.hid SM0; have TM := Lib.hid TM0; have HNEW := Lib.hid HNEW0; have L8 := Lib.hid l8; have HTK := Lib.hid (kt TM0 X Y); have HTT := Lib.hid (Kz OK.out X Y (kt TM0 X Y) (c := c)); have hM3 : M.length ≤ 3000 := by omega
  have hws := BW.size; have l8lt := l8.lt; have m3lt := m3.lt; have c6lt := c6.lt; have r4lt := r4.lt; have p9lt := p9.lt; have hpl := wu M X Y (xw c L X Y (zU M X Y)); obtain ⟨_, _, e1, hcp⟩ := rs1.len; simp only [Value.slice.injEq] at e1; obtain ⟨rfl, _, rfl⟩ := e1; have RS1W := Lib.hid rs1; have B := kH.refl b_l8 W; clear SM0 TM0 HNEW0 hMn hwi hxy; cases hh : y6 M X Y with
  | true =>
   have HH := Lib.hid hh; obtain ⟨hc1, hc2⟩ := zfK SM.out hh; obtain ⟨k, hk⟩ : ∃ k, cutL M X Y = k := ⟨_, rfl⟩; rw [hk] at hc1 hc2; have HK := Lib.hid hk; obtain ⟨gg, oo, rfl, rc⟩ := rs1.at (by omega); have HC2 := Lib.hid hc2; clear hh hk hc2; gi_upto_region 10 with fail
   refine zE (by kernel_rfl) ?_; try simp only [zM]
   refine j4 2 ?_
   repeat (first | go_big_quiet_skip | (go_big_quiet_want; first | ((first | refine zF rfl X Y rfl ?_ | refine qB ?_ | refine qC ?_); simp only [zo]; go_big_quiet_on) | (go_big_quiet_op; go_big_quiet_on)))
   refine wpQuiet_nil ?_; refine je (enters_of Tryz.func130 (by kernel_rfl) rfl) (c := We _ M X Y k true _ rs1 SM.out (by omega) HK.out HH.out) (h := ?_); rintro e wn ⟨rfl, za⟩; have zf := B.size; have zg := za.size; replace B := B.trans (za.mono B.size)
   (try replace l8 := l8.below za)
   (try replace m3 := m3.below za)
   (try replace c6 := c6.below za)
   (try replace r4 := r4.below za)
   (try replace ce := ce.below za)
   (try replace p9 := p9.below za)
   (try replace rs1 := rs1.below za)
   refine ⟨_, rfl, ?_⟩; simp only [zo]; refine j4 5 ?_; repeat (first | go_big_quiet_skip | (go_big_quiet_want; first | ((first | refine zF rfl X Y rfl ?_ | refine qB ?_ | refine qC ?_); simp only [zo]; go_big_quiet_on) | (go_big_quiet_op; go_big_quiet_on)))
   refine wpQuiet_nil ?_; refine wpList_nil ?_; refine qw.at ?_; try dsimp only
   gi_upto_region 11 with fail
   refine zE (by kernel_rfl) ?_; try simp only [zM]
   refine j4 2 ?_
   repeat (first | go_big_quiet_skip | (go_big_quiet_want; first | ((first | refine zF rfl X Y rfl ?_ | refine qB ?_ | refine qC ?_); simp only [zo]; go_big_quiet_on) | (go_big_quiet_op; go_big_quiet_on)))
   refine wpQuiet_nil ?_
   (refine jy rfl _ rfl ⟨X, Y, zT⟩ (by rfl) ?_; intro b_s1 wn zb zd ht za zg; have zf := B.size; replace B := B.trans (za.mono (by omega)); have zk := Nat.lt_of_lt_of_eq (Nat.lt_succ_self _) zg.symm; clear zg; (try have zh := l8.lt); (try replace l8 := l8.below (za.mono zb)); (try have zh := m3.lt); (try replace m3 := m3.below (za.mono zb)); (try have zh := c6.lt); (try replace c6 := c6.below (za.mono zb)); (try have zh := r4.lt); (try replace r4 := r4.below (za.mono zb)); (try have zh := ce.lt); (try replace ce := ce.below (za.mono zb)); (try have zh := p9.lt); (try replace p9 := p9.below (za.mono zb)); (try have zh := rs1.lt); (try replace rs1 := rs1.below (za.mono zb)); have s1 := ht; clear ht; simp only [zo])
   refine j4 1 ?_; repeat (first | go_big_quiet_skip | (go_big_quiet_want; first | ((first | refine zF rfl X Y rfl ?_ | refine qB ?_ | refine qC ?_); simp only [zo]; go_big_quiet_on) | (go_big_quiet_op; go_big_quiet_on)))
   refine wpQuiet_nil ?_; refine wpList_nil ?_; refine qw.at ?_; try dsimp only
   gi_upto_region 12 with fail
   refine zE (by kernel_rfl) ?_; try simp only [zM]
   refine j4 1 ?_; repeat (first | go_big_quiet_skip | (go_big_quiet_want; first | ((first | refine zF rfl X Y rfl ?_ | refine qB ?_ | refine qC ?_); simp only [zo]; go_big_quiet_on) | (go_big_quiet_op; go_big_quiet_on)))
   refine wpQuiet_nil ?_; refine wpList_nil ?_; refine qw.at ?_; try dsimp only
   gi_upto_region 13 with fail
   refine zE (by kernel_rfl) ?_; try simp only [zM]
   refine j4 8 ?_
   repeat (first | go_big_quiet_skip | (go_big_quiet_want; first | ((first | refine zF rfl X Y rfl ?_ | refine qB ?_ | refine qC ?_); simp only [zo]; go_big_quiet_on) | (go_big_quiet_op; go_big_quiet_on)))
   refine wpQuiet_nil ?_; refine wpList_nil ?_; refine qw.at ?_; try dsimp only
   obtain ⟨g2, o2, e2, rc'⟩ := rs1.at (by omega); obtain ⟨rfl, rfl⟩ : gg = g2 ∧ oo = o2 := by simpa using e2
   have rsm := zf1 rc' hc1; rw [HC2.out] at rsm; have rsm0 := rsm; gi_upto_region 14 with fail
   refine zE (by kernel_rfl) ?_; try simp only [zM]
   (refine xH rfl rfl ?_; intro b_t13 wn zb zd ht za zg; have zf := B.size; replace B := B.trans (za.mono (by omega)); have zk := Nat.lt_of_lt_of_eq (Nat.lt_succ_self _) zg.symm; clear zg; (try have zh := l8.lt); (try replace l8 := l8.below (za.mono zb)); (try have zh := m3.lt); (try replace m3 := m3.below (za.mono zb)); (try have zh := c6.lt); (try replace c6 := c6.below (za.mono zb)); (try have zh := r4.lt); (try replace r4 := r4.below (za.mono zb)); (try have zh := ce.lt); (try replace ce := ce.below (za.mono zb)); (try have zh := p9.lt); (try replace p9 := p9.below (za.mono zb)); (try have zh := rs1.lt); (try replace rs1 := rs1.below (za.mono zb)); (try have zh := rsm.lt); (try replace rsm := rsm.below (za.mono zb)); have t13 := ht; clear ht; simp only [zo])
   refine wpList_nil ?_; refine qw.at ?_; try dsimp only
   have HSEP := Lib.hid (VZ rsm0 zb (by simp)); clear rsm0; gi_upto_region 15 with fail
   refine zE (by kernel_rfl) ?_; try simp only [zM]
   refine j4 1 ?_; repeat (first | go_big_quiet_skip | (go_big_quiet_want; first | ((first | refine zF rfl X Y rfl ?_ | refine qB ?_ | refine qC ?_); simp only [zo]; go_big_quiet_on) | (go_big_quiet_op; go_big_quiet_on)))
   refine wpQuiet_nil ?_
   (refine qv rfl (.func (.func 131) #[] #[.pointer (some ⟨b_c6, 0, none⟩), .pointer (some ⟨b_m3, 0, none⟩)]) (by first | rfl | simp [go_sem, Act.eval]) ?_; simp only [zo])
   refine je (enters_of Tryz.func126 (by kernel_rfl) rfl) (c := YK c FT.out L HL.out OK.out ⟨X, Y, zU M X Y⟩ _ _ b_c6 b_m3 b_t13 g o cu _ _ rsm HTK.out HWI.out c6 m3 ce t13 HSEP.out) (h := ?_); rintro e wn ⟨a5, cp5, rfl, rs5, za⟩; have zf := B.size; have zg := za.size; replace B := B.trans (za.mono B.size)
   (try replace l8 := l8.below za)
   (try replace m3 := m3.below za)
   (try replace c6 := c6.below za)
   (try replace r4 := r4.below za)
   (try replace ce := ce.below za)
   (try replace p9 := p9.below za)
   (try replace t13 := t13.below za)
   (try replace rs1 := rs1.below za)
   (try replace rsm := rsm.below za)
   refine ⟨_, rfl, ?_⟩; simp only [zo]; refine zw (by first | rfl | simp [Region.wanted, yielded]) rfl Tryz.underlying62 rfl ?_; simp only [zo]; refine j4 1 ?_; repeat (first | go_big_quiet_skip | (go_big_quiet_want; first | ((first | refine zF rfl X Y rfl ?_ | refine qB ?_ | refine qC ?_); simp only [zo]; go_big_quiet_on) | (go_big_quiet_op; go_big_quiet_on)))
   refine wpQuiet_nil ?_; refine wpList_nil ?_; refine qw.at ?_; try dsimp only
   clear rsm HSEP; cases hz : jh (xw c L X Y (zU M X Y)) with
   | true =>
    have HN : jm X Y (xw c L X Y (zU M X Y)) = [] := by unfold jm; rw [hz]; rfl
    rw [HN] at rs5; simp only [HN, List.length_nil]; clear rs5 HN; have HZ := Lib.hid hz; clear hz; gi_wp2
    refine wpIn_loop_rounds 2 ?_; rw [roundsIn_succ]; gi_upto_region 16 with fail
    refine zE (by kernel_rfl) ?_; try simp only [zM]
    refine j4 1 ?_; repeat (first | go_big_quiet_skip | (go_big_quiet_want; first | ((first | refine zF rfl X Y rfl ?_ | refine qB ?_ | refine qC ?_); simp only [zo]; go_big_quiet_on) | (go_big_quiet_op; go_big_quiet_on)))
    refine wpQuiet_nil ?_; refine wpList_nil ?_; refine qw.at ?_; try dsimp only
    clear rs1; have rs1 := RS1W.out.chg L8.out (by simp) B.toChg; gi_upto_region 20 with fail
    refine zE (by kernel_rfl) ?_; try simp only [zM]
    refine j4 3 ?_
    repeat (first | go_big_quiet_skip | (go_big_quiet_want; first | ((first | refine zF rfl X Y rfl ?_ | refine jU rfl _ rfl (xO t13) ?_ | refine zn (t := 123) rfl _ _ _ rfl (fun w hw => qW (zB t15 w hw)) (by first | rfl | omega) ?_ | refine qB ?_ | refine qC ?_); simp only [zo]; go_big_quiet_on) | (go_big_quiet_op; go_big_quiet_on)))
    refine wpQuiet_nil ?_; refine je (enters_of Tryz.func132 (by kernel_rfl) rfl) (c := XA _ M X Y (fun _ => Px.zero) _ rs1 SM.out (fun i _ => Px.zero_ok) (by omega)) (h := ?_); rintro e wn ⟨v8, rfl, rs8, za⟩; have zf := B.size; have zg := za.size; replace B := B.trans (za.mono B.size)
    (try replace l8 := l8.below za)
    (try replace m3 := m3.below za)
    (try replace c6 := c6.below za)
    (try replace r4 := r4.below za)
    (try replace ce := ce.below za)
    (try replace p9 := p9.below za)
    (try replace t13 := t13.below za)
    (try replace t15 := t15.below za)
    (try replace rs1 := rs1.below za)
    (try replace rsm := rsm.below za)
    obtain ⟨a8, c8, rfl, hc8⟩ := rs8.len; refine ⟨_, rfl, ?_⟩; simp only [zo]
    (refine xK rfl _ _ rfl _ rfl _ _ _ rfl l8 ?_; have l8o := l8; clear l8; intro wn ht ze zg; (try replace rs8 := rs8.chg l8o (by simp) ze); have zf := B.size; replace zg := Nat.le_of_eq zg.symm; replace B := kH.chg B ze; (try replace m3 := m3.of_eq (ze.block _ m3.lt (by omega))); (try replace c6 := c6.of_eq (ze.block _ c6.lt (by omega))); (try replace r4 := r4.of_eq (ze.block _ r4.lt (by omega))); (try replace ce := ce.of_eq (ze.block _ ce.lt (by omega))); (try replace p9 := p9.of_eq (ze.block _ p9.lt (by omega))); (try replace t13 := t13.of_eq (ze.block _ t13.lt (by omega))); (try replace t15 := t15.of_eq (ze.block _ t15.lt (by omega))); have l8 := ht; clear ht; simp only [zo])
    refine wpList_nil ?_; refine qw.at ?_; try dsimp only
    gi_wp2
    refine ⟨KeepsOthers.chgB B.toChg L8.out, JH.chg B.toChg, ?_⟩
    dsimp only
    rw [HNEW.out]; have e := Xc M X Y (t := fun _ => Px.zero) (u := xw c L X Y (zU M X Y)) ((ua _).2 fun _ _ => rfl) HZ.out; rw [e] at rs8 l8; exact ⟨a8, c8, l8, rs8, m3, c6, r4, ce, qV.below BW B.toChg (by omega) BW.size⟩
   | false =>
    have HN : jm X Y (xw c L X Y (zU M X Y)) = [⟨X, Y, xw c L X Y (zU M X Y)⟩] := by unfold jm; rw [hz]; rfl
    rw [HN] at rs5; simp only [HN, List.length_cons, List.length_nil, Nat.zero_add]; obtain ⟨g5, o5, rfl, rc5⟩ := rs5.at (by simp); clear rs5 HN hz; have hlen1 : 0 < [(⟨X, Y, xw c L X Y (zU M X Y)⟩ : TA)].length := by simp
    gi_wp2
    refine wpIn_loop_rounds 2 ?_; rw [roundsIn_succ]; gi_upto_region 16 with fail
    refine zE (by kernel_rfl) ?_; try simp only [zM]
    refine j4 1 ?_; repeat (first | go_big_quiet_skip | (go_big_quiet_want; first | ((first | refine zF rfl X Y rfl ?_ | refine qB ?_ | refine qC ?_); simp only [zo]; go_big_quiet_on) | (go_big_quiet_op; go_big_quiet_on)))
    refine wpQuiet_nil ?_; refine wpList_nil ?_; refine qw.at ?_; try dsimp only
    gi_upto_region 17 with fail
    refine zE (by kernel_rfl) ?_; try simp only [zM]
    refine j4 2 ?_; repeat (first | go_big_quiet_skip | (go_big_quiet_want; first | ((first | refine zF rfl X Y rfl ?_ | refine zn (t := 125) rfl _ _ _ rfl (fun w hw => xq (z7 rc5 w hw) hlen1 rfl) (by first | rfl | omega) ?_ | refine qB ?_ | refine qC ?_); simp only [zo]; go_big_quiet_on) | (go_big_quiet_op; go_big_quiet_on)))
    refine wpQuiet_nil ?_
    (refine zr (t := 125) rfl _ (qK _ _ rfl) ?_; intro b_t15 wn zb zd ht za zg; have zf := B.size; replace B := B.trans (za.mono (by omega)); have zk := Nat.lt_of_lt_of_eq (Nat.lt_succ_self _) zg.symm; clear zg; (try have zh := l8.lt); (try replace l8 := l8.below (za.mono zb)); (try have zh := m3.lt); (try replace m3 := m3.below (za.mono zb)); (try have zh := c6.lt); (try replace c6 := c6.below (za.mono zb)); (try have zh := r4.lt); (try replace r4 := r4.below (za.mono zb)); (try have zh := ce.lt); (try replace ce := ce.below (za.mono zb)); (try have zh := p9.lt); (try replace p9 := p9.below (za.mono zb)); (try have zh := t13.lt); (try replace t13 := t13.below (za.mono zb)); (try have zh := t15.lt); (try replace t15 := t15.below (za.mono zb)); (try have zh := rs1.lt); (try replace rs1 := rs1.below (za.mono zb)); (try have zh := rsm.lt); (try replace rsm := rsm.below (za.mono zb)); (try have zh := rc5.lt); (try replace rc5 := rc5.below (za.mono zb)); have t15 := ht; clear ht; simp only [zo])
    (refine zq (t := 125) rfl _ _ rfl _ rfl _ rfl t15 (by rw [zS]; kernel_rfl) (by simp only [zS, jl]) (xj _) ?_; clear t15; intro wn ht ze zg; have zf := B.size; replace zg := Nat.le_of_eq zg.symm; replace B := kH.store B ze (by omega); (try replace l8 := l8.of_eq (ze.block _ l8.lt (by omega))); (try replace m3 := m3.of_eq (ze.block _ m3.lt (by omega))); (try replace c6 := c6.of_eq (ze.block _ c6.lt (by omega))); (try replace r4 := r4.of_eq (ze.block _ r4.lt (by omega))); (try replace ce := ce.of_eq (ze.block _ ce.lt (by omega))); (try replace p9 := p9.of_eq (ze.block _ p9.lt (by omega))); (try replace t13 := t13.of_eq (ze.block _ t13.lt (by omega))); (try replace rs1 := rs1.of_eq (ze.block _ rs1.lt (by omega))); (try replace rsm := rsm.of_eq (ze.block _ rsm.lt (by omega))); (try replace rc5 := rc5.of_eq (ze.block _ rc5.lt (by omega))); have t15 := ht; clear ht; simp only [zo])
    refine wpList_nil ?_; refine qw.at ?_; try dsimp only
    replace t15 : zK 125 _ b_t15 (xX ⟨X, Y, xw c L X Y (zU M X Y)⟩) := t15; gi_upto_region 18 with fail
    refine zE (by kernel_rfl) ?_; try simp only [zM]
    refine j4 2 ?_; repeat (first | go_big_quiet_skip | (go_big_quiet_want; first | ((first | refine zF rfl X Y rfl ?_ | refine jU rfl _ rfl (xO t13) ?_ | refine zn (t := 123) rfl _ _ _ rfl (fun w hw => qW (zB t15 w hw)) (by first | rfl | omega) ?_ | refine qB ?_ | refine qC ?_); simp only [zo]; go_big_quiet_on) | (go_big_quiet_op; go_big_quiet_on)))
    refine wpQuiet_nil ?_
    (refine qH rfl _ _ rfl _ rfl _ rfl t13 ?_; clear t13; intro wn ht ze zg; have zf := B.size; replace zg := Nat.le_of_eq zg.symm; replace B := kH.store B ze (by omega); (try replace l8 := l8.of_eq (ze.block _ l8.lt (by omega))); (try replace m3 := m3.of_eq (ze.block _ m3.lt (by omega))); (try replace c6 := c6.of_eq (ze.block _ c6.lt (by omega))); (try replace r4 := r4.of_eq (ze.block _ r4.lt (by omega))); (try replace ce := ce.of_eq (ze.block _ ce.lt (by omega))); (try replace p9 := p9.of_eq (ze.block _ p9.lt (by omega))); (try replace t15 := t15.of_eq (ze.block _ t15.lt (by omega))); (try replace rs1 := rs1.of_eq (ze.block _ rs1.lt (by omega))); (try replace rsm := rsm.of_eq (ze.block _ rsm.lt (by omega))); (try replace rc5 := rc5.of_eq (ze.block _ rc5.lt (by omega))); have t13 := ht; clear ht; simp only [zo])
    refine wpList_nil ?_; refine qw.at ?_; try dsimp only
    gi_upto_region 19 with fail
    refine zE (by kernel_rfl) ?_; try simp only [zM]
    refine j4 2 ?_; repeat (first | go_big_quiet_skip | (go_big_quiet_want; first | ((first | refine zF rfl X Y rfl ?_ | refine qB ?_ | refine qC ?_); simp only [zo]; go_big_quiet_on) | (go_big_quiet_op; go_big_quiet_on)))
    refine wpQuiet_nil ?_; refine wpList_nil ?_; refine qw.at ?_; try dsimp only
    gi_wp2
    rw [roundsIn_succ]; gi_upto_region 16 with fail
    refine zE (by kernel_rfl) ?_; try simp only [zM]
    refine j4 1 ?_; repeat (first | go_big_quiet_skip | (go_big_quiet_want; first | ((first | refine zF rfl X Y rfl ?_ | refine qB ?_ | refine qC ?_); simp only [zo]; go_big_quiet_on) | (go_big_quiet_op; go_big_quiet_on)))
    refine wpQuiet_nil ?_; refine wpList_nil ?_; refine qw.at ?_; try dsimp only
    clear rs1; have rs1 := RS1W.out.chg L8.out (by simp) B.toChg; gi_upto_region 20 with fail
    refine zE (by kernel_rfl) ?_; try simp only [zM]
    refine j4 3 ?_
    repeat (first | go_big_quiet_skip | (go_big_quiet_want; first | ((first | refine zF rfl X Y rfl ?_ | refine jU rfl _ rfl (xO t13) ?_ | refine zn (t := 123) rfl _ _ _ rfl (fun w hw => qW (zB t15 w hw)) (by first | rfl | omega) ?_ | refine qB ?_ | refine qC ?_); simp only [zo]; go_big_quiet_on) | (go_big_quiet_op; go_big_quiet_on)))
    refine wpQuiet_nil ?_; refine je (enters_of Tryz.func132 (by kernel_rfl) rfl) (c := XA _ M X Y (xw c L X Y (zU M X Y)) _ rs1 SM.out HTT.out (by omega)) (h := ?_); rintro e wn ⟨v8, rfl, rs8, za⟩; have zf := B.size; have zg := za.size; replace B := B.trans (za.mono B.size)
    (try replace l8 := l8.below za)
    (try replace m3 := m3.below za)
    (try replace c6 := c6.below za)
    (try replace r4 := r4.below za)
    (try replace ce := ce.below za)
    (try replace p9 := p9.below za)
    (try replace t13 := t13.below za)
    (try replace t15 := t15.below za)
    (try replace rs1 := rs1.below za)
    (try replace rsm := rsm.below za)
    (try replace rc5 := rc5.below za)
    obtain ⟨a8, c8, rfl, hc8⟩ := rs8.len; refine ⟨_, rfl, ?_⟩; simp only [zo]
    (refine xK rfl _ _ rfl _ rfl _ _ _ rfl l8 ?_; have l8o := l8; clear l8; intro wn ht ze zg; (try replace rs8 := rs8.chg l8o (by simp) ze); have zf := B.size; replace zg := Nat.le_of_eq zg.symm; replace B := kH.chg B ze; (try replace m3 := m3.of_eq (ze.block _ m3.lt (by omega))); (try replace c6 := c6.of_eq (ze.block _ c6.lt (by omega))); (try replace r4 := r4.of_eq (ze.block _ r4.lt (by omega))); (try replace ce := ce.of_eq (ze.block _ ce.lt (by omega))); (try replace p9 := p9.of_eq (ze.block _ p9.lt (by omega))); (try replace t13 := t13.of_eq (ze.block _ t13.lt (by omega))); (try replace t15 := t15.of_eq (ze.block _ t15.lt (by omega))); (try replace rc5 := rc5.of_eq (ze.block _ rc5.lt (by omega))); have l8 := ht; clear ht; simp only [zo])
    refine wpList_nil ?_; refine qw.at ?_; try dsimp only
    gi_wp2
    refine ⟨KeepsOthers.chgB B.toChg L8.out, JH.chg B.toChg, ?_⟩
    dsimp only
    rw [HNEW.out]; exact ⟨a8, c8, l8, rs8, m3, c6, r4, ce, qV.below BW B.toChg (by omega) BW.size⟩
  | false =>
   have HH := Lib.hid hh; have hz0 := Lib.hid (zep SM.out hh); obtain ⟨k, hk⟩ : ∃ k, cutL M X Y = k := ⟨_, rfl⟩; have HK := Lib.hid hk; have hkl := uT M X Y; rw [hk] at hkl; clear hh hk; gi_upto_region 10 with fail
   refine zE (by kernel_rfl) ?_; try simp only [zM]
   refine j4 2 ?_
   repeat (first | go_big_quiet_skip | (go_big_quiet_want; first | ((first | refine zF rfl X Y rfl ?_ | refine qB ?_ | refine qC ?_); simp only [zo]; go_big_quiet_on) | (go_big_quiet_op; go_big_quiet_on)))
   refine wpQuiet_nil ?_; refine je (enters_of Tryz.func130 (by kernel_rfl) rfl) (c := We _ M X Y k false _ rs1 SM.out (by omega) HK.out HH.out) (h := ?_); rintro e wn ⟨rfl, za⟩; have zf := B.size; have zg := za.size; replace B := B.trans (za.mono B.size)
   (try replace l8 := l8.below za)
   (try replace m3 := m3.below za)
   (try replace c6 := c6.below za)
   (try replace r4 := r4.below za)
   (try replace ce := ce.below za)
   (try replace p9 := p9.below za)
   (try replace t13 := t13.below za)
   (try replace t15 := t15.below za)
   (try replace rs1 := rs1.below za)
   (try replace rsm := rsm.below za)
   (try replace rc5 := rc5.below za)
   refine ⟨_, rfl, ?_⟩; simp only [zo]; refine j4 5 ?_; repeat (first | go_big_quiet_skip | (go_big_quiet_want; first | ((first | refine zF rfl X Y rfl ?_ | refine qB ?_ | refine qC ?_); simp only [zo]; go_big_quiet_on) | (go_big_quiet_op; go_big_quiet_on)))
   refine wpQuiet_nil ?_; refine wpList_nil ?_; refine qw.at ?_; try dsimp only
   gi_upto_region 11 with fail
   refine zE (by kernel_rfl) ?_; try simp only [zM]
   refine j4 2 ?_
   repeat (first | go_big_quiet_skip | (go_big_quiet_want; first | ((first | refine zF rfl X Y rfl ?_ | refine qB ?_ | refine qC ?_); simp only [zo]; go_big_quiet_on) | (go_big_quiet_op; go_big_quiet_on)))
   refine wpQuiet_nil ?_
   (refine jy rfl _ rfl ⟨X, Y, zT⟩ (by rfl) ?_; intro b_s1 wn zb zd ht za zg; have zf := B.size; replace B := B.trans (za.mono (by omega)); have zk := Nat.lt_of_lt_of_eq (Nat.lt_succ_self _) zg.symm; clear zg; (try have zh := l8.lt); (try replace l8 := l8.below (za.mono zb)); (try have zh := m3.lt); (try replace m3 := m3.below (za.mono zb)); (try have zh := c6.lt); (try replace c6 := c6.below (za.mono zb)); (try have zh := r4.lt); (try replace r4 := r4.below (za.mono zb)); (try have zh := ce.lt); (try replace ce := ce.below (za.mono zb)); (try have zh := p9.lt); (try replace p9 := p9.below (za.mono zb)); (try have zh := t13.lt); (try replace t13 := t13.below (za.mono zb)); (try have zh := t15.lt); (try replace t15 := t15.below (za.mono zb)); (try have zh := rs1.lt); (try replace rs1 := rs1.below (za.mono zb)); (try have zh := rsm.lt); (try replace rsm := rsm.below (za.mono zb)); (try have zh := rc5.lt); (try replace rc5 := rc5.below (za.mono zb)); have s1 := ht; clear ht; simp only [zo])
   refine j4 1 ?_; repeat (first | go_big_quiet_skip | (go_big_quiet_want; first | ((first | refine zF rfl X Y rfl ?_ | refine qB ?_ | refine qC ?_); simp only [zo]; go_big_quiet_on) | (go_big_quiet_op; go_big_quiet_on)))
   refine wpQuiet_nil ?_; refine wpList_nil ?_; refine qw.at ?_; try dsimp only
   gi_upto_region 12 with fail
   refine zE (by kernel_rfl) ?_; try simp only [zM]
   refine j4 1 ?_; repeat (first | go_big_quiet_skip | (go_big_quiet_want; first | ((first | refine zF rfl X Y rfl ?_ | refine qB ?_ | refine qC ?_); simp only [zo]; go_big_quiet_on) | (go_big_quiet_op; go_big_quiet_on)))
   refine wpQuiet_nil ?_; refine wpList_nil ?_; refine qw.at ?_; try dsimp only
   have rsm := RS.one s1; have rsm0 := rsm; gi_upto_region 14 with fail
   refine zE (by kernel_rfl) ?_; try simp only [zM]
   (refine xH rfl rfl ?_; intro b_t13 wn zb zd ht za zg; have zf := B.size; replace B := B.trans (za.mono (by omega)); have zk := Nat.lt_of_lt_of_eq (Nat.lt_succ_self _) zg.symm; clear zg; (try have zh := l8.lt); (try replace l8 := l8.below (za.mono zb)); (try have zh := m3.lt); (try replace m3 := m3.below (za.mono zb)); (try have zh := c6.lt); (try replace c6 := c6.below (za.mono zb)); (try have zh := r4.lt); (try replace r4 := r4.below (za.mono zb)); (try have zh := ce.lt); (try replace ce := ce.below (za.mono zb)); (try have zh := p9.lt); (try replace p9 := p9.below (za.mono zb)); (try have zh := t13.lt); (try replace t13 := t13.below (za.mono zb)); (try have zh := t15.lt); (try replace t15 := t15.below (za.mono zb)); (try have zh := rs1.lt); (try replace rs1 := rs1.below (za.mono zb)); (try have zh := rsm.lt); (try replace rsm := rsm.below (za.mono zb)); (try have zh := rc5.lt); (try replace rc5 := rc5.below (za.mono zb)); have t13 := ht; clear ht; simp only [zo])
   refine wpList_nil ?_; refine qw.at ?_; try dsimp only
   have HSEP := Lib.hid (VZ rsm0 zb (by simp)); clear rsm0; gi_upto_region 15 with fail
   refine zE (by kernel_rfl) ?_; try simp only [zM]
   refine j4 1 ?_; repeat (first | go_big_quiet_skip | (go_big_quiet_want; first | ((first | refine zF rfl X Y rfl ?_ | refine qB ?_ | refine qC ?_); simp only [zo]; go_big_quiet_on) | (go_big_quiet_op; go_big_quiet_on)))
   refine wpQuiet_nil ?_
   (refine qv rfl (.func (.func 131) #[] #[.pointer (some ⟨b_c6, 0, none⟩), .pointer (some ⟨b_m3, 0, none⟩)]) (by first | rfl | simp [go_sem, Act.eval]) ?_; simp only [zo])
   refine je (enters_of Tryz.func126 (by kernel_rfl) rfl) (c := YK c FT.out L HL.out OK.out ⟨X, Y, zT⟩ _ _ b_c6 b_m3 b_t13 g o cu _ _ rsm (fun i _ => Px.zero_ok) HWI.out c6 m3 ce t13 HSEP.out) (h := ?_); rintro e wn ⟨a5, cp5, rfl, rs5, za⟩; have zf := B.size; have zg := za.size; replace B := B.trans (za.mono B.size)
   (try replace l8 := l8.below za)
   (try replace m3 := m3.below za)
   (try replace c6 := c6.below za)
   (try replace r4 := r4.below za)
   (try replace ce := ce.below za)
   (try replace p9 := p9.below za)
   (try replace t13 := t13.below za)
   (try replace t15 := t15.below za)
   (try replace rs1 := rs1.below za)
   (try replace rsm := rsm.below za)
   (try replace rc5 := rc5.below za)
   refine ⟨_, rfl, ?_⟩; simp only [zo]; refine zw (by first | rfl | simp [Region.wanted, yielded]) rfl Tryz.underlying62 rfl ?_; simp only [zo]; refine j4 1 ?_; repeat (first | go_big_quiet_skip | (go_big_quiet_want; first | ((first | refine zF rfl X Y rfl ?_ | refine qB ?_ | refine qC ?_); simp only [zo]; go_big_quiet_on) | (go_big_quiet_op; go_big_quiet_on)))
   refine wpQuiet_nil ?_; refine wpList_nil ?_; refine qw.at ?_; try dsimp only
   rw [← hz0.out] at rs5; simp only [← hz0.out]; clear rsm HSEP; cases hz : jh (xw c L X Y (zU M X Y)) with
   | true =>
    have HN : jm X Y (xw c L X Y (zU M X Y)) = [] := by unfold jm; rw [hz]; rfl
    rw [HN] at rs5; simp only [HN, List.length_nil]; clear rs5 HN; have HZ := Lib.hid hz; clear hz; gi_wp2
    refine wpIn_loop_rounds 2 ?_; rw [roundsIn_succ]; gi_upto_region 16 with fail
    refine zE (by kernel_rfl) ?_; try simp only [zM]
    refine j4 1 ?_; repeat (first | go_big_quiet_skip | (go_big_quiet_want; first | ((first | refine zF rfl X Y rfl ?_ | refine qB ?_ | refine qC ?_); simp only [zo]; go_big_quiet_on) | (go_big_quiet_op; go_big_quiet_on)))
    refine wpQuiet_nil ?_; refine wpList_nil ?_; refine qw.at ?_; try dsimp only
    clear rs1; have rs1 := RS1W.out.chg L8.out (by simp) B.toChg; gi_upto_region 20 with fail
    refine zE (by kernel_rfl) ?_; try simp only [zM]
    refine j4 3 ?_
    repeat (first | go_big_quiet_skip | (go_big_quiet_want; first | ((first | refine zF rfl X Y rfl ?_ | refine jU rfl _ rfl (xO t13) ?_ | refine zn (t := 123) rfl _ _ _ rfl (fun w hw => qW (zB t15 w hw)) (by first | rfl | omega) ?_ | refine qB ?_ | refine qC ?_); simp only [zo]; go_big_quiet_on) | (go_big_quiet_op; go_big_quiet_on)))
    refine wpQuiet_nil ?_; refine je (enters_of Tryz.func132 (by kernel_rfl) rfl) (c := XA _ M X Y (fun _ => Px.zero) _ rs1 SM.out (fun i _ => Px.zero_ok) (by omega)) (h := ?_); rintro e wn ⟨v8, rfl, rs8, za⟩; have zf := B.size; have zg := za.size; replace B := B.trans (za.mono B.size)
    (try replace l8 := l8.below za)
    (try replace m3 := m3.below za)
    (try replace c6 := c6.below za)
    (try replace r4 := r4.below za)
    (try replace ce := ce.below za)
    (try replace p9 := p9.below za)
    (try replace t13 := t13.below za)
    (try replace t15 := t15.below za)
    (try replace rs1 := rs1.below za)
    (try replace rc5 := rc5.below za)
    obtain ⟨a8, c8, rfl, hc8⟩ := rs8.len; refine ⟨_, rfl, ?_⟩; simp only [zo]
    (refine xK rfl _ _ rfl _ rfl _ _ _ rfl l8 ?_; have l8o := l8; clear l8; intro wn ht ze zg; (try replace rs8 := rs8.chg l8o (by simp) ze); have zf := B.size; replace zg := Nat.le_of_eq zg.symm; replace B := kH.chg B ze; (try replace m3 := m3.of_eq (ze.block _ m3.lt (by omega))); (try replace c6 := c6.of_eq (ze.block _ c6.lt (by omega))); (try replace r4 := r4.of_eq (ze.block _ r4.lt (by omega))); (try replace ce := ce.of_eq (ze.block _ ce.lt (by omega))); (try replace p9 := p9.of_eq (ze.block _ p9.lt (by omega))); (try replace t13 := t13.of_eq (ze.block _ t13.lt (by omega))); (try replace t15 := t15.of_eq (ze.block _ t15.lt (by omega))); (try replace rc5 := rc5.of_eq (ze.block _ rc5.lt (by omega))); have l8 := ht; clear ht; simp only [zo])
    refine wpList_nil ?_; refine qw.at ?_; try dsimp only
    gi_wp2
    refine ⟨KeepsOthers.chgB B.toChg L8.out, JH.chg B.toChg, ?_⟩
    dsimp only
    rw [HNEW.out]; have e := Xc M X Y (t := fun _ => Px.zero) (u := xw c L X Y (zU M X Y)) ((ua _).2 fun _ _ => rfl) HZ.out; rw [e] at rs8 l8; exact ⟨a8, c8, l8, rs8, m3, c6, r4, ce, qV.below BW B.toChg (by omega) BW.size⟩
   | false =>
    have HN : jm X Y (xw c L X Y (zU M X Y)) = [⟨X, Y, xw c L X Y (zU M X Y)⟩] := by unfold jm; rw [hz]; rfl
    rw [HN] at rs5; simp only [HN, List.length_cons, List.length_nil, Nat.zero_add]; obtain ⟨g5, o5, rfl, rc5⟩ := rs5.at (by simp); clear rs5 HN hz; have hlen1 : 0 < [(⟨X, Y, xw c L X Y (zU M X Y)⟩ : TA)].length := by simp
    gi_wp2
    refine wpIn_loop_rounds 2 ?_; rw [roundsIn_succ]; gi_upto_region 16 with fail
    refine zE (by kernel_rfl) ?_; try simp only [zM]
    refine j4 1 ?_; repeat (first | go_big_quiet_skip | (go_big_quiet_want; first | ((first | refine zF rfl X Y rfl ?_ | refine qB ?_ | refine qC ?_); simp only [zo]; go_big_quiet_on) | (go_big_quiet_op; go_big_quiet_on)))
    refine wpQuiet_nil ?_; refine wpList_nil ?_; refine qw.at ?_; try dsimp only
    gi_upto_region 17 with fail
    refine zE (by kernel_rfl) ?_; try simp only [zM]
    refine j4 2 ?_; repeat (first | go_big_quiet_skip | (go_big_quiet_want; first | ((first | refine zF rfl X Y rfl ?_ | refine zn (t := 125) rfl _ _ _ rfl (fun w hw => xq (z7 rc5 w hw) hlen1 rfl) (by first | rfl | omega) ?_ | refine qB ?_ | refine qC ?_); simp only [zo]; go_big_quiet_on) | (go_big_quiet_op; go_big_quiet_on)))
    refine wpQuiet_nil ?_
    (refine zr (t := 125) rfl _ (qK _ _ rfl) ?_; intro b_t15 wn zb zd ht za zg; have zf := B.size; replace B := B.trans (za.mono (by omega)); have zk := Nat.lt_of_lt_of_eq (Nat.lt_succ_self _) zg.symm; clear zg; (try have zh := l8.lt); (try replace l8 := l8.below (za.mono zb)); (try have zh := m3.lt); (try replace m3 := m3.below (za.mono zb)); (try have zh := c6.lt); (try replace c6 := c6.below (za.mono zb)); (try have zh := r4.lt); (try replace r4 := r4.below (za.mono zb)); (try have zh := ce.lt); (try replace ce := ce.below (za.mono zb)); (try have zh := p9.lt); (try replace p9 := p9.below (za.mono zb)); (try have zh := t13.lt); (try replace t13 := t13.below (za.mono zb)); (try have zh := t15.lt); (try replace t15 := t15.below (za.mono zb)); (try have zh := rs1.lt); (try replace rs1 := rs1.below (za.mono zb)); (try have zh := rsm.lt); (try have zh := rc5.lt); have t15 := ht; clear ht; simp only [zo])
    (refine zq (t := 125) rfl _ _ rfl _ rfl _ rfl t15 (by rw [zS]; kernel_rfl) (by simp only [zS, jl]) (xj _) ?_; clear t15; intro wn ht ze zg; have zf := B.size; replace zg := Nat.le_of_eq zg.symm; replace B := kH.store B ze (by omega); (try replace l8 := l8.of_eq (ze.block _ l8.lt (by omega))); (try replace m3 := m3.of_eq (ze.block _ m3.lt (by omega))); (try replace c6 := c6.of_eq (ze.block _ c6.lt (by omega))); (try replace r4 := r4.of_eq (ze.block _ r4.lt (by omega))); (try replace ce := ce.of_eq (ze.block _ ce.lt (by omega))); (try replace p9 := p9.of_eq (ze.block _ p9.lt (by omega))); (try replace t13 := t13.of_eq (ze.block _ t13.lt (by omega))); (try replace rs1 := rs1.of_eq (ze.block _ rs1.lt (by omega))); have t15 := ht; clear ht; simp only [zo])
    refine wpList_nil ?_; refine qw.at ?_; try dsimp only
    replace t15 : zK 125 _ b_t15 (xX ⟨X, Y, xw c L X Y (zU M X Y)⟩) := t15; gi_upto_region 18 with fail
    refine zE (by kernel_rfl) ?_; try simp only [zM]
    refine j4 2 ?_; repeat (first | go_big_quiet_skip | (go_big_quiet_want; first | ((first | refine zF rfl X Y rfl ?_ | refine jU rfl _ rfl (xO t13) ?_ | refine zn (t := 123) rfl _ _ _ rfl (fun w hw => qW (zB t15 w hw)) (by first | rfl | omega) ?_ | refine qB ?_ | refine qC ?_); simp only [zo]; go_big_quiet_on) | (go_big_quiet_op; go_big_quiet_on)))
    refine wpQuiet_nil ?_
    (refine qH rfl _ _ rfl _ rfl _ rfl t13 ?_; clear t13; intro wn ht ze zg; have zf := B.size; replace zg := Nat.le_of_eq zg.symm; replace B := kH.store B ze (by omega); (try replace l8 := l8.of_eq (ze.block _ l8.lt (by omega))); (try replace m3 := m3.of_eq (ze.block _ m3.lt (by omega))); (try replace c6 := c6.of_eq (ze.block _ c6.lt (by omega))); (try replace r4 := r4.of_eq (ze.block _ r4.lt (by omega))); (try replace ce := ce.of_eq (ze.block _ ce.lt (by omega))); (try replace p9 := p9.of_eq (ze.block _ p9.lt (by omega))); (try replace t15 := t15.of_eq (ze.block _ t15.lt (by omega))); (try replace rs1 := rs1.of_eq (ze.block _ rs1.lt (by omega))); have t13 := ht; clear ht; simp only [zo])
    refine wpList_nil ?_; refine qw.at ?_; try dsimp only
    gi_upto_region 19 with fail
    refine zE (by kernel_rfl) ?_; try simp only [zM]
    refine j4 2 ?_; repeat (first | go_big_quiet_skip | (go_big_quiet_want; first | ((first | refine zF rfl X Y rfl ?_ | refine qB ?_ | refine qC ?_); simp only [zo]; go_big_quiet_on) | (go_big_quiet_op; go_big_quiet_on)))
    refine wpQuiet_nil ?_; refine wpList_nil ?_; refine qw.at ?_; try dsimp only
    gi_wp2
    rw [roundsIn_succ]; gi_upto_region 16 with fail
    refine zE (by kernel_rfl) ?_; try simp only [zM]
    refine j4 1 ?_; repeat (first | go_big_quiet_skip | (go_big_quiet_want; first | ((first | refine zF rfl X Y rfl ?_ | refine qB ?_ | refine qC ?_); simp only [zo]; go_big_quiet_on) | (go_big_quiet_op; go_big_quiet_on)))
    refine wpQuiet_nil ?_; refine wpList_nil ?_; refine qw.at ?_; try dsimp only
    clear rs1; have rs1 := RS1W.out.chg L8.out (by simp) B.toChg; gi_upto_region 20 with fail
    refine zE (by kernel_rfl) ?_; try simp only [zM]
    refine j4 3 ?_
    repeat (first | go_big_quiet_skip | (go_big_quiet_want; first | ((first | refine zF rfl X Y rfl ?_ | refine jU rfl _ rfl (xO t13) ?_ | refine zn (t := 123) rfl _ _ _ rfl (fun w hw => qW (zB t15 w hw)) (by first | rfl | omega) ?_ | refine qB ?_ | refine qC ?_); simp only [zo]; go_big_quiet_on) | (go_big_quiet_op; go_big_quiet_on)))
    refine wpQuiet_nil ?_; refine je (enters_of Tryz.func132 (by kernel_rfl) rfl) (c := XA _ M X Y (xw c L X Y (zU M X Y)) _ rs1 SM.out HTT.out (by omega)) (h := ?_); rintro e wn ⟨v8, rfl, rs8, za⟩; have zf := B.size; have zg := za.size; replace B := B.trans (za.mono B.size)
    (try replace l8 := l8.below za)
    (try replace m3 := m3.below za)
    (try replace c6 := c6.below za)
    (try replace r4 := r4.below za)
    (try replace ce := ce.below za)
    (try replace rs1 := rs1.below za)
    obtain ⟨a8, c8, rfl, hc8⟩ := rs8.len; refine ⟨_, rfl, ?_⟩; simp only [zo]
    (refine xK rfl _ _ rfl _ rfl _ _ _ rfl l8 ?_; have l8o := l8; clear l8; intro wn ht ze zg; (try replace rs8 := rs8.chg l8o (by simp) ze); have zf := B.size; replace zg := Nat.le_of_eq zg.symm; replace B := kH.chg B ze; (try replace m3 := m3.of_eq (ze.block _ m3.lt (by omega))); (try replace c6 := c6.of_eq (ze.block _ c6.lt (by omega))); (try replace r4 := r4.of_eq (ze.block _ r4.lt (by omega))); (try replace ce := ce.of_eq (ze.block _ ce.lt (by omega))); have l8 := ht; clear ht; simp only [zo])
    refine wpList_nil ?_; refine qw.at ?_; try dsimp only
    gi_wp2
    refine ⟨KeepsOthers.chgB B.toChg L8.out, JH.chg B.toChg, ?_⟩
    dsimp only
    rw [HNEW.out]; exact ⟨a8, c8, l8, rs8, m3, c6, r4, ce, qV.below BW B.toChg (by omega) BW.size⟩
 case done =>
  have hszB := B.size; rintro D xs W hD rfl ⟨a, cp, l8, rs1, m3, c6, r4, ce, BW⟩ hDD; have kd : yU W D := hDD; rw [zc1] at l8 rs1; have B := BW; have hMn := Kv c L (yY c) KS; rw [zc2] at hMn; obtain ⟨M, hM⟩ : ∃ M, xP c L KS (yY c) = M := ⟨_, rfl⟩; rw [hM] at l8 rs1 hMn; have HM := Lib.hid hM; clear hM; have hwD : w.heap.size ≤ D := by omega
  have hne := kd.ne r4; clear BW m3 c6 ce hD; go_upto_region 21 with fail
  by_cases hm : M.length ≤ 1024
  ·have e1 : xQ M = M := if_pos hm
   have e2 : kx M = 0 := if_pos hm; refine wp_region_lit ?_; try simp only [zM]
   refine zy 1 ?_
   refine je (enters_of Tryz.func78 (by kernel_rfl) rfl) (c := ym _ M _ rs1 (by omega)) (h := ?_); rintro e wn ⟨v2, b2, rfl, _, _, od2, za⟩; have zf := B.size; have zg := za.size; replace B := B.trans (za.mono B.size)
   (try replace l8 := l8.below za)
   (try replace r4 := r4.below za)
   (try replace kd := kd.below za)
   have rs2 := od2.rs; clear od2; obtain ⟨a2, c2, rfl, hc2⟩ := rs2.len; refine ⟨_, rfl, ?_⟩; simp only [zo]; refine je (enters_of Tryz.func133 (by kernel_rfl) rfl) (c := zbW _ _ _ _ (by unfold maxLen; omega)) (h := ?_)
   rintro e wn ⟨rfl, za⟩; have zf := B.size; have zg := za.size; replace B := B.trans (za.mono B.size)
   (try replace l8 := l8.below za)
   (try replace r4 := r4.below za)
   (try replace kd := kd.below za)
   replace rs2 := rs2.below za; rw [if_pos hm]; refine ⟨_, rfl, ?_⟩; simp only [zo]; refine zy 2 ?_
   (refine zq (t := 64) rfl _ _ rfl _ rfl _ rfl r4 (by kernel_rfl) rfl (by simp [Value.oneCell']) (qG B (by omega) ?_); have r4o := r4; clear r4 B; intro wn r4 ze zf zg B; (try replace rs2 := rs2.chg r4o (by simp) ze); (try replace l8 := l8.of_eq (ze.block _ l8.lt (by omega))); (try replace kd := kd.of_eq (ze.block _ kd.lt (by omega))); simp only [zo])
   refine zy 1 ?_; refine wpList_nil ?_; go_wp2; refine ⟨by simp, .inl ⟨_, _, rfl, run_takeDeferred kd, ?_⟩⟩; refine ⟨_, zV (t := 64) rfl _ _ b_r4 rfl _ rfl ((World.putObj_heap_other (fun e => hne (by omega))).trans r4) Tryz.isAgg64 (by kernel_rfl), ?_⟩; have BF := B.trans (belowK_b (w := w) (Nat.le_refl _) wn D _ (.deferred none) hwD kd rfl rfl)
   dsimp only
   rw [HM.out, e1, e2]; exact ⟨_, _, rfl, rs2.own (grownBy_putObj' _ _ _) (fun r e => by cases e; exact ⟨_, kd, rfl⟩), BF⟩
  ·have e1 : xQ M = [] := if_neg hm
   have e2 : kx M = 2 := if_neg hm; refine wp_region_lit ?_; try simp only [zM]
   refine zy 1 ?_
   refine je (enters_of Tryz.func78 (by kernel_rfl) rfl) (c := ym _ M _ rs1 (by omega)) (h := ?_); rintro e wn ⟨v2, b2, rfl, _, _, od2, za⟩; have zf := B.size; have zg := za.size; replace B := B.trans (za.mono B.size)
   (try replace r4 := r4.below za)
   (try replace kd := kd.below za)
   have rs2 := od2.rs; clear od2; obtain ⟨a2, c2, rfl, hc2⟩ := rs2.len; refine ⟨_, rfl, ?_⟩; simp only [zo]; refine je (enters_of Tryz.func133 (by kernel_rfl) rfl) (c := zbW _ _ _ _ (by unfold maxLen; omega)) (h := ?_)
   rintro e wn ⟨rfl, za⟩; have zf := B.size; have zg := za.size; replace B := B.trans (za.mono B.size)
   (try replace r4 := r4.below za)
   (try replace kd := kd.below za)
   replace rs2 := rs2.below za; rw [if_neg hm]; refine ⟨_, rfl, ?_⟩; simp only [zo]; refine zy 2 ?_
   (refine zq (t := 64) rfl _ _ rfl _ rfl _ rfl r4 (by kernel_rfl) rfl (by simp [Value.oneCell']) (qG B (by omega) ?_); have r4o := r4; clear r4 B; intro wn r4 ze zf zg B; (try replace kd := kd.of_eq (ze.block _ kd.lt (by omega))); simp only [zo])
   refine zy 1 ?_; refine wpList_nil ?_; go_wp2; refine ⟨by simp, .inl ⟨_, _, rfl, run_takeDeferred kd, ?_⟩⟩; refine ⟨_, zV (t := 64) rfl _ _ b_r4 rfl _ rfl ((World.putObj_heap_other (fun e => hne (by omega))).trans r4) Tryz.isAgg64 (by kernel_rfl), ?_⟩; have BF := B.trans (belowK_b (w := w) (Nat.le_refl _) wn D _ (.deferred none) hwD kd rfl rfl)
   dsimp only
   rw [HM.out, e1, e2]; exact ⟨_, _, rfl, RS.nil _, BF⟩
end Go.Proofs.YtepelndbbhdofaaGreatDoor
/- Strokes, points and dabs in memory; contracts of Floor by any divisor, of round. -/
namespace Go.Proofs.YtepelndbbhdofaaGreatDoor
open Go.RowKit Go.Shelf Pl
set_option linter.unusedVariables false
set_option linter.unusedSimpArgs false
set_option maxRecDepth 20000
def j3 : Xq Sp 3 43 26 where
 enc := fun a => #[.int .i64 a.x, .int .i64 a.y, .int .i64 a.p]
 bytes := 24
 zero := ⟨0, 0, 0⟩
 size := fun _ => rfl
 one := fun x u hu => by
  have : u ∈ [Value.int .i64 x.x, .int .i64 x.y, .int .i64 x.p] := hu; simp at this
  rcases this with rfl | rfl | rfl <;> rfl
 pos := by omega
 small := by omega
 und := Tryz.underlying26
 info := by kernel_rfl
 zer := by kernel_rfl
theorem zdv {t : TypeId} {w : World} {b : Nat} {a : Sp} (h : zK t w b (j3.enc a)) : w.cell? ⟨b, 2, none⟩ = some (.int .i64 a.p) := h.cell 2 rfl
def vZ : Xq Db 3 45 35 where
 enc := fun a => #[.int .i64 a.x, .int .i64 a.y, .int .i64 a.r]
 bytes := 24
 zero := ⟨0, 0, 0⟩
 size := fun _ => rfl
 one := fun x u hu => by
  have : u ∈ [Value.int .i64 x.x, .int .i64 x.y, .int .i64 x.r] := hu; simp at this
  rcases this with rfl | rfl | rfl <;> rfl
 pos := by omega
 small := by omega
 und := Tryz.underlying35
 info := by kernel_rfl
 zer := by kernel_rfl
def jE (v : Value) (s : jd) : Array Value := #[v, .int .i64 s.rad, .int .i64 s.spa, .int .u8 s.col.r, .int .u8 s.col.g, .int .u8 s.col.b, .int .u8 s.col.a, .bool s.era, .int .i64 s.pha]
section
variable {t : TypeId} {w : World} {b : Nat} {v : Value} {s : jd}
theorem xi (h : zK t w b (jE v s)) : (Instr.loadAt 28 (.pointer (some ⟨b, 3, none⟩))).run Tryz.prog w = .ok (.agg #[.int .u8 s.col.r, .int .u8 s.col.g, .int .u8 s.col.b, .int .u8 s.col.a]) w :=
 wB h 3 Tryz.isAgg28 (by kernel_rfl) (fun j hj => by
  have hj : j < 4 := hj
  match j, hj with
  | 0, _ => rfl
  | 1, _ => rfl
  | 2, _ => rfl
  | 3, _ => rfl)
end
theorem KP (w : World) (o : Oper) (ho : o.op = .alloc 3) (ev : Operand → Value) : (execOp ev o).run Tryz.prog w = .ok (.value (.pointer (some ⟨w.heap.size, 0, none⟩))) (w.alloc (.cells #[.int .i64 0] 3)) := by
 obtain ⟨d, p, t, ps, af, gd⟩ := o
 simp only at ho
 subst ho
 kernel_rfl
theorem km (w : World) (o : Oper) (ho : o.op = .alloc 43) (ev : Operand → Value) : (execOp ev o).run Tryz.prog w = .ok (.value (.pointer (some ⟨w.heap.size, 0, none⟩))) (w.alloc (.cells #[.int .i64 0, .int .i64 0, .int .i64 0] 43)) := by
 obtain ⟨d, p, t, ps, af, gd⟩ := o
 simp only at ho
 subst ho
 kernel_rfl
theorem kl (w : World) (o : Oper) (ho : o.op = .alloc 45) (ev : Operand → Value) : (execOp ev o).run Tryz.prog w = .ok (.value (.pointer (some ⟨w.heap.size, 0, none⟩))) (w.alloc (.cells #[.int .i64 0, .int .i64 0, .int .i64 0] 45)) := by
 obtain ⟨d, p, t, ps, af, gd⟩ := o
 simp only at ho
 subst ho
 kernel_rfl
theorem qD (w : World) (o : Oper) (ho : o.op = .alloc 30) (ev : Operand → Value) : (execOp ev o).run Tryz.prog w = .ok (.value (.pointer (some ⟨w.heap.size, 0, none⟩))) (w.alloc (.cells #[.slice none 0 0, .int .i64 0, .int .i64 0, .int .u8 0, .int .u8 0, .int .u8 0, .int .u8 0, .bool false, .int .i64 0] 30)) := by
 obtain ⟨d, p, t, ps, af, gd⟩ := o
 simp only at ho
 subst ho
 kernel_rfl
/-- An integer stored into a cell of a block. -/
theorem yg {t : TypeId} {ops : Array Oper} {rest : List Oper} {o : Oper} {a : Act} {w : World} {Q : Exit → Act → World → Prop} (hg : o.guard = none) (x y : Operand) (ho : o.op = .store 3 x y) (b i : Nat) (hx : a.eval x = .pointer (some ⟨b, i, none⟩)) (z : Int) (hy : a.eval y = .int .i64 z) {cs : Array Value} (ht : zK t w b cs) {c : Value} (hc : cs[i]? = some c)
  (h : ∀ w', zK t w' b (cs.setIfInBounds i (.int .i64 z)) → qV b w w' → w'.heap.size = w.heap.size → wpList Tryz.prog ops Q rest (a.put o.dst undef) w') : wpList Tryz.prog ops Q (o :: rest) a w := by
 have c0 := ht.cell i hc
 have f0 := ht.frozen i
 refine qk hg x y ho (w.setCell ⟨b, i, none⟩ (.int .i64 z)) ?_ (h _ ?_ ((qV.refl b w).setCell _) (by simp only [World.size_setCell]))
 ·rw [hx, hy]
  simp [go_sem, c0, f0]
 ·exact heap_setCell_same w b i cs _ _ ht
theorem Yo {x d : Int} (hx : x ≤ 0) (hd : 0 < d) : x.tmod d ≤ 0 ∧ x.tdiv d ≤ 0 := by
 obtain ⟨n, rfl⟩ : ∃ n : Nat, x = -(n : Int) := ⟨(-x).toNat, by omega⟩
 rw [Int.neg_tmod, Int.neg_tdiv, Int.tmod_eq_emod_of_nonneg (by omega), Int.tdiv_eq_ediv_of_nonneg (by omega)]
 have h1 := Int.emod_nonneg (n : Int) (show d ≠ 0 by omega)
 have h2 : 0 ≤ (n : Int) / d := Int.ediv_nonneg (by omega) (by omega)
 omega
theorem zbf {x d : Int} (h : x < 0) (hd : 0 < d) : (x.tmod d = 0 → x.tdiv d = x / d) ∧ (x.tmod d ≠ 0 → x.tdiv d - 1 = x / d) := by
 have e : d * x.tdiv d + x.tmod d = x := by have := Int.tmod_def x d; omega
 have b1 : -d < x.tmod d := by have := Int.lt_tmod_of_pos x hd; omega
 have b2 : x.tmod d ≤ 0 := (Yo (x := x) (by omega) (show 0 < d by omega)).1
 generalize x.tmod d = r at *
 generalize x.tdiv d = q at *
 rw [Int.mul_comm] at e
 constructor
 ·intro h0
  exact ((Int.ediv_emod_unique (a := x) (q := q) (r := 0) hd).2 ⟨by rw [Int.mul_comm d q]; omega, by omega, hd⟩).1.symm
 ·intro h0
  exact ((Int.ediv_emod_unique (a := x) (q := q - 1) (r := r + d) hd).2 ⟨by rw [Int.mul_comm d (q - 1), Int.sub_mul]; omega, by omega, by omega⟩).1.symm
theorem zdG {x d m : Int} (hd : 1 ≤ d) (h1 : -m ≤ x) (h2 : x ≤ 0) : -m ≤ x.tdiv d ∧ x.tdiv d ≤ 0 := by
 have e : d * x.tdiv d + x.tmod d = x := by have := Int.tmod_def x d; omega
 have b2 : x.tmod d ≤ 0 := (Yo (x := x) (by omega) (show 0 < d by omega)).1
 have hq : x.tdiv d ≤ 0 := (Yo h2 (show 0 < d by omega)).2
 refine ⟨?_, hq⟩
 have : d * x.tdiv d ≤ x.tdiv d := by
  have h := Int.mul_le_mul_of_nonneg_right hd (show 0 ≤ -x.tdiv d by omega); rw [Int.one_mul, Int.mul_neg] at h; omega
 have hb : x ≤ d * x.tdiv d := by omega
 -- d * q = x - r, so -m ≤ x ≤ d * q ≤ q
 omega
set_option maxHeartbeats 1000000 in
theorem zbG (x d : Int) (w : World) (hx1 : -4611686018427387904 ≤ x) (hx2 : x ≤ 4611686018427387904) (hd : 1 ≤ d) (hd2 : d ≤ 4611686018427387904) : Calls Tryz.prog 111 #[.int .i64 x, .int .i64 d] w fun e w' => e = .returned (.int .i64 (x / d)) ∧ Below w.heap.size w w' := by
 have e0 : (d == 0) = false := by simp; omega
 have e00 : d ≠ 0 := by omega
 have e01 : decide (d < 0) = false := decide_eq_false (by omega)
 have e02 : ¬ d < 0 := by omega
 by_cases h0 : 0 ≤ x
 ·have h1 : ¬ x < 0 := by omega
  have d1 : decide (x < 0) = false := decide_eq_false h1; have t1 : x.tdiv d = x / d := Int.tdiv_eq_ediv_of_nonneg h0; have t2 : x.tmod d = x % d := Int.tmod_eq_emod_of_nonneg h0; have b1 : 0 ≤ x / d := Int.ediv_nonneg h0 (by omega); have b2 : x / d ≤ x := Int.ediv_le_self d h0; by_cases hm : x % d = 0
  ·have e1 : (x % d == 0) = true := by simpa using hm
   have e2 : (x % d != 0) = false := by simpa using hm
   clear hm h0 h1; go_enter Tryz.func111, Tryz.ntmps111
   go_wp2; go_ret; exact ⟨by first | rfl | rw [t1], by go_grown⟩
  ·have e1 : (x % d == 0) = false := by simpa using hm
   have e2 : (x % d != 0) = true := by simpa using hm
   clear hm h0 h1; go_enter Tryz.func111, Tryz.ntmps111
   go_wp2; go_ret; exact ⟨by first | rfl | rw [t1], by go_grown⟩
 ·have h1 : x < 0 := by omega
  have d1 : decide (x < 0) = true := decide_eq_true h1; obtain ⟨t1, t2⟩ := zbf h1 (show 0 < d by omega); have hb := zdG (m := 4611686018427387904) hd hx1 (show x ≤ 0 by omega); by_cases hm : x.tmod d = 0
  ·have E := Lib.hid (t1 hm)
   have e1 : (x.tmod d == 0) = true := by simpa using hm
   have e2 : (x.tmod d != 0) = false := by simpa using hm
   clear t1 t2 h0 hm; go_enter Tryz.func111, Tryz.ntmps111
   go_wp2; go_ret; exact ⟨js E.out, by go_grown⟩
  ·have E := Lib.hid (t2 hm)
   have e1 : (x.tmod d == 0) = false := by simpa using hm
   have e2 : (x.tmod d != 0) = true := by simpa using hm
   clear t1 t2 h0 hm; go_enter Tryz.func111, Tryz.ntmps111
   go_wp2; go_ret; exact ⟨js E.out, by go_grown⟩
theorem v7 (x d q : Int) (w : World) (hx1 : -4611686018427387904 ≤ x) (hx2 : x ≤ 4611686018427387904) (hd : 1 ≤ d) (hd2 : d ≤ 4611686018427387904) (e : x / d = q) : Calls Tryz.prog 111 #[.int .i64 x, .int .i64 d] w fun e w' => e = .returned (.int .i64 q) ∧ Below w.heap.size w w' := e ▸ zbG x d w hx1 hx2 hd hd2
theorem vf (x d q : Int) (w : World) (hx1 : -1000000000000000000 ≤ x) (hx2 : x ≤ 1000000000000000000) (hd : 1 ≤ d) (hd2 : d ≤ 1000000000000000000) (e : qm x d = q) : Calls Tryz.prog 68 #[.int .i64 x, .int .i64 d] w fun e w' => e = .returned (.int .i64 q) ∧ Below w.heap.size w w' := by
 have B := Below.refl w.heap.size w
 have E := Lib.hid (show (2 * x + d) / (2 * d) = q from e)
 clear e
 go_enter Tryz.func68, Tryz.ntmps68
 go_upto_region 1 with fail
 refine wp_region_lit ?_
 refine zy 6 ?_
 refine je (enters_of Tryz.func111 (by kernel_rfl) rfl) (c := v7 (2 * x + d) (2 * d) q _ (by omega) (by omega) (by omega) (by omega) E.out) (h := ?_)
 rintro e wn ⟨rfl, za⟩
 have zf := B.size
 have zg := za.size
 replace B := B.trans (za.mono B.size)
 refine ⟨_, rfl, ?_⟩
 simp only [zo]
 refine zy 1 ?_
 refine wpList_nil ?_
 go_wp2
 go_ret
 exact ⟨rfl, B⟩
end Go.Proofs.YtepelndbbhdofaaGreatDoor
/- A strings.Builder in use, told with what a write keeps: blocks of other kinds; the closure 'put' of Bytes. -/
namespace Go.Proofs.YtepelndbbhdofaaGreatDoor
open Go.RowKit Go.Lib Sha
set_option linter.unusedVariables false
set_option linter.unusedSimpArgs false
set_option maxRecDepth 20000
/-- A builder in use: it holds the bytes l. -/
def UB (B b : Nat) (l : List UInt8) (w : World) : Prop := Lib.BuilderAt 131 5 B b (.pointer (some ⟨b, 0, none⟩)) (Lib.byteCells l) w
/-- Blocks of other kinds than bytes stand, but one. -/
def KB (b : Nat) (w w' : World) : Prop := ∀ (k : Nat) (t : TypeId) (cs : Array Value), zK t w k cs → k ≠ b → t ≠ 5 → zK t w' k cs
theorem UB.holds {B b : Nat} {l : List UInt8} {w : World} (h : UB B b l w) : yl B b l w := .inr h
theorem UB.lt {B b : Nat} {l : List UInt8} {w : World} (h : UB B b l w) : b < w.heap.size := h.holds.lt
theorem UB.below {B b : Nat} {l : List UInt8} {w w' : World} (h : UB B b l w) (hb : Below w.heap.size w w') : UB B b l w' := by
 have zh := h.lt
 obtain ⟨hB, v, hv, hown, hne⟩ := h
 exact ⟨hB, v, (hb.block b zh).trans hv, hown.kept (row := none) ⟨hb.os, hb.tape, hb.output, hb.size, fun k hk _ => hb.block k hk⟩ (Classical.em _), hne⟩
theorem KB.below {b : Nat} {w w' : World} (hb : Below w.heap.size w w') : KB b w w' := fun k t cs h _ _ => h.of_eq (hb.block k h.lt)
theorem KB.trans {b : Nat} {u v w : World} (h : KB b u v) (k : KB b v w) : KB b u w := fun i t cs hi hb ht => k i t cs (h i t cs hi hb ht) hb ht
theorem zae (B b : Nat) (l : List UInt8) (s : ByteArray) (w : World) (h : yl B b l w) (hlen : l.length + s.size ≤ 140737488355328) (hBw : B ≤ w.heap.size) :
  Calls Tryz.prog 83 #[.pointer (some ⟨b, 0, none⟩), .string s] w fun e w' => e = .returned (.tuple #[.int .i64 s.size, .nilIface]) ∧ UB B b (l ++ bytes s) w' ∧ Below B w w' :=
 (Any.Builder_WriteString WN Y6 B b (Lib.byteCells l) s w h (by simpa [Lib.byteCells] using hlen) hBw).mono fun e w' ⟨h1, h2, h3⟩ => ⟨h1, (by unfold UB; rw [JU]; exact h2), h3⟩
theorem zd0 (B b : Nat) (l : List UInt8) (w : World) (h : UB B b l w) : Calls Tryz.prog 137 #[.pointer (some ⟨b, 0, none⟩)] w fun e w' => e = .returned (.tuple #[]) ∧ w' = w := Any.Builder_copyCheck_used { WN with } Y6.toX72 b w h.cell0
set_option maxHeartbeats 2000000 in
theorem zdY (B b : Nat) (l : List UInt8) (s : ByteArray) (w : World) (h : UB B b l w) (hlen : l.length + s.size ≤ 140737488355328) (hBw : B ≤ w.heap.size) :
  Calls Tryz.prog 83 #[.pointer (some ⟨b, 0, none⟩), .string s] w fun e w' => (∃ v, e = .returned v) ∧ UB B b (l ++ bytes s) w' ∧ Below B w w' ∧ KB b w w' := by
 have zh := h.lt
 have HU := Lib.hid h
 obtain ⟨hB, v, hbk, hown, hne⟩ := h
 have c1 : w.cell? ⟨b, 1, none⟩ = some v := by rw [Lib.cell_of_heap hbk]; rfl
 have hcl : (Lib.byteCells l).length = l.length := by simp [Lib.byteCells]
 obtain ⟨i0, hi, hz0, hz1, hz2⟩ := info_parts Y6.infoByte
 go_enter Tryz.func83, Tryz.ntmps83
 go_wp2_with (go_at_call 137; refine (zd0 B b l _ HU.out).mono ?_)
 rintro e w1 ⟨rfl, hw⟩
 have hw2 := hw.symm
 clear hw
 subst hw2
 go_wp2_with (at_builtin; refine Lib.wpList_append_own_string _ rfl _ _ 75 9 rfl B 5 i0 Tryz.underlying75 Tryz.underlying9 hi hz0 hz1 hz2 _ _ _ rfl hown s rfl ?c3 ?c4 ?c5 ?_)
 case c3 => rw [hcl]; unfold maxLen; omega
 case c4 => rw [hcl]; omega
 case c5 => exact hBw
 intro v' w2 hown' hgrow _
 have hb2 : w2.heap[b]? = some (.cells #[.pointer (some ⟨b, 0, none⟩), v] 131 (0, 0)) := by
  rw [hgrow.block b zh (fun e => hne e.symm)]; exact hbk
 have d1 : w2.cell? ⟨b, 1, none⟩ = some v := by rw [Lib.cell_of_heap hb2]; rfl
 have f1 : w2.frozen? ⟨b, 1, none⟩ = false := Lib.frozen_of_heap hb2 1
 have KG : KB b w w2 := fun k t cs hk hkb ht => hk.of_eq (hgrow.block k hk.lt fun e => by
  rcases hown.2 with ⟨rfl, _⟩ | ⟨g, cap, cur, rfl, _, hgc, _⟩
  ·cases e
  ·have hgk : k = g := by simpa [Value.ownBlock] using e
   subst hgk; rw [show w.heap[k]? = _ from hk] at hgc
   injection hgc with hgc
   injection hgc with _ e2 _
   exact ht e2)
 obtain ⟨ao, n', cap, rfl⟩ : ∃ ao n' cap, v' = .slice ao n' cap := by
  rcases hown'.2 with ⟨hv, _⟩ | ⟨g, cap, cur, hv, _⟩
  ·exact ⟨_, _, _, hv⟩
  ·exact ⟨_, _, _, hv⟩
 have HOW := Lib.hid hown
 clear hown hbk HU c1
 go_wp2
 go_ret2
 refine ⟨⟨_, rfl⟩, ?_, ?_, ?_⟩
 ·unfold UB
  rw [JU]; exact Lib.BuilderAt.put (T := 131) (e := 5) hB hb2 (bs' := Lib.byteCells l ++ Lib.strCells s) (by rw [List.length_append, Lib.strCells_length, hcl]; exact hown') Y6.neB5
 ·exact ((Below.refl B w).grown hgrow hBw (fun k hk => (World.ownsRow.lt HOW.out k hk).1)).setCell (p := ⟨b, 1, none⟩) hB _
 ·exact fun k t cs hk hkb ht => (KG k t cs hk hkb ht).of_eq (((qV.refl b w2).setCell _).block k (KG k t cs hk hkb ht).lt hkb)
theorem wN (n m : Nat) : bytes (yw (jr n m)) = jr n m := rfl
theorem zd6 (B0 b : Nat) (l : List UInt8) (n : Nat) (w : World) (h : yl B0 b l w) (hn : n < 16777216) (hlen : l.length ≤ 100000) (hBw : B0 ≤ w.heap.size) : Calls Tryz.prog 82 #[.int .i64 (n : Int), .int .i64 1, .pointer (some ⟨b, 0, none⟩)] w fun e w' => (∃ v, e = .returned v) ∧ UB B0 b (l ++ jr n 1) w' ∧ Below B0 w w' := by
 have B := Below.refl w.heap.size w
 go_enter Tryz.func82, Tryz.ntmps82
 go_upto_region 0 with fail
 refine wp_region_lit ?_
 refine zy 2 ?_
 refine je (enters_of Tryz.func84 (by kernel_rfl) rfl) (c := zbQ n (by omega) _) (h := ?_)
 rintro e wn ⟨rfl, za⟩
 have zf := B.size
 have zg := za.size
 replace B := B.trans (za.mono B.size)
 replace h := h.below za
 refine ⟨_, rfl, ?_⟩
 simp only [zo]
 refine je (enters_of Tryz.func83 (by kernel_rfl) rfl) (c := zae B0 b l _ wn h (by rw [jD, zH]; omega) (by have := B.size; omega)) (h := ?_)
 rintro e wm ⟨rfl, hu, zl⟩
 rw [wN] at hu
 refine ⟨_, rfl, ?_⟩
 simp only [zo]
 refine wpList_nil ?_
 go_wp2
 go_end0
 refine ⟨⟨_, rfl⟩, hu, (B.mono hBw).trans zl⟩
theorem zfv (B0 b : Nat) (l : List UInt8) (n : Nat) (w : World) (h : UB B0 b l w) (hn : n < 16777216) (hlen : l.length ≤ 100000) (hBw : B0 ≤ w.heap.size) : Calls Tryz.prog 82 #[.int .i64 (n : Int), .int .i64 1, .pointer (some ⟨b, 0, none⟩)] w fun e w' => (∃ v, e = .returned v) ∧ UB B0 b (l ++ jr n 1) w' ∧ Below B0 w w' ∧ KB b w w' := by
 have B := Below.refl w.heap.size w
 go_enter Tryz.func82, Tryz.ntmps82
 go_upto_region 0 with fail
 refine wp_region_lit ?_
 refine zy 2 ?_
 refine je (enters_of Tryz.func84 (by kernel_rfl) rfl) (c := zbQ n (by omega) _) (h := ?_)
 rintro e wn ⟨rfl, za⟩
 have zf := B.size
 have zg := za.size
 replace B := B.trans (za.mono B.size)
 replace h := h.below za
 refine ⟨_, rfl, ?_⟩
 simp only [zo]
 refine je (enters_of Tryz.func83 (by kernel_rfl) rfl) (c := zdY B0 b l _ wn h (by rw [jD, zH]; omega) (by have := B.size; omega)) (h := ?_)
 rintro e wm ⟨⟨v, rfl⟩, hu, zl, hkm⟩
 rw [wN] at hu
 refine ⟨_, rfl, ?_⟩
 simp only [zo]
 refine wpList_nil ?_
 go_wp2
 go_end0
 refine ⟨⟨_, rfl⟩, hu, (B.mono hBw).trans zl, (KB.below B).trans hkm⟩
theorem zfw (B0 b : Nat) (l : List UInt8) (n : Nat) (w : World) (h : UB B0 b l w) (hn : n < 16777216) (hlen : l.length ≤ 100000) (hBw : B0 ≤ w.heap.size) : Calls Tryz.prog 82 #[.int .i64 (n : Int), .int .i64 2, .pointer (some ⟨b, 0, none⟩)] w fun e w' => (∃ v, e = .returned v) ∧ UB B0 b (l ++ jr n 2) w' ∧ Below B0 w w' ∧ KB b w w' := by
 have B := Below.refl w.heap.size w
 go_enter Tryz.func82, Tryz.ntmps82
 go_upto_region 0 with fail
 refine wp_region_lit ?_
 refine zy 2 ?_
 refine je (enters_of Tryz.func84 (by kernel_rfl) rfl) (c := zfr n (by omega) _) (h := ?_)
 rintro e wn ⟨rfl, za⟩
 have zf := B.size
 have zg := za.size
 replace B := B.trans (za.mono B.size)
 replace h := h.below za
 refine ⟨_, rfl, ?_⟩
 simp only [zo]
 refine je (enters_of Tryz.func83 (by kernel_rfl) rfl) (c := zdY B0 b l _ wn h (by rw [jD, zH]; omega) (by have := B.size; omega)) (h := ?_)
 rintro e wm ⟨⟨v, rfl⟩, hu, zl, hkm⟩
 rw [wN] at hu
 refine ⟨_, rfl, ?_⟩
 simp only [zo]
 refine wpList_nil ?_
 go_wp2
 go_end0
 refine ⟨⟨_, rfl⟩, hu, (B.mono hBw).trans zl, (KB.below B).trans hkm⟩
theorem zfx (B0 b : Nat) (l : List UInt8) (n : Nat) (w : World) (h : UB B0 b l w) (hn : n < 16777216) (hlen : l.length ≤ 100000) (hBw : B0 ≤ w.heap.size) : Calls Tryz.prog 82 #[.int .i64 (n : Int), .int .i64 3, .pointer (some ⟨b, 0, none⟩)] w fun e w' => (∃ v, e = .returned v) ∧ UB B0 b (l ++ jr n 3) w' ∧ Below B0 w w' ∧ KB b w w' := by
 have B := Below.refl w.heap.size w
 go_enter Tryz.func82, Tryz.ntmps82
 go_upto_region 0 with fail
 refine wp_region_lit ?_
 refine zy 2 ?_
 refine je (enters_of Tryz.func84 (by kernel_rfl) rfl) (c := zfs n (by omega) _) (h := ?_)
 rintro e wn ⟨rfl, za⟩
 have zf := B.size
 have zg := za.size
 replace B := B.trans (za.mono B.size)
 replace h := h.below za
 refine ⟨_, rfl, ?_⟩
 simp only [zo]
 refine je (enters_of Tryz.func83 (by kernel_rfl) rfl) (c := zdY B0 b l _ wn h (by rw [jD, zH]; omega) (by have := B.size; omega)) (h := ?_)
 rintro e wm ⟨⟨v, rfl⟩, hu, zl, hkm⟩
 rw [wN] at hu
 refine ⟨_, rfl, ?_⟩
 simp only [zo]
 refine wpList_nil ?_
 go_wp2
 go_end0
 refine ⟨⟨_, rfl⟩, hu, (B.mono hBw).trans zl, (KB.below B).trans hkm⟩
end Go.Proofs.YtepelndbbhdofaaGreatDoor
/- Plain: strokes as bytes. -/
namespace Go.Proofs.YtepelndbbhdofaaGreatDoor
open Go.RowKit Pl Sha
set_option linter.unusedVariables false
set_option linter.unusedSimpArgs false
/-- A number, big endian. -/
def beN (l : List UInt8) : Nat := l.foldl (fun n b => 256 * n + b.toNat) 0
theorem QI (l : List UInt8) (b : UInt8) : beN (l ++ [b]) = 256 * beN l + b.toNat := by unfold beN; rw [List.foldl_append]; rfl
theorem zbc {P : List UInt8 → Prop} (h0 : P []) (h1 : ∀ l b, P l → P (l ++ [b])) : ∀ l, P l := fun l => by
 rw [← List.reverse_reverse l]
 induction l.reverse with
 | nil => exact h0
 | cons b r ih => rw [List.reverse_cons]; exact h1 _ _ ih
theorem QH (l : List UInt8) : beN l < 256 ^ l.length := by
 induction l using zbc with
 | h0 => show 0 < 256 ^ 0; decide
 | h1 l b ih =>
  rw [QI, List.length_append, List.length_singleton, Nat.pow_succ]; have := b.toNat_lt; omega
theorem ke : ∀ (m n : Nat), n < 256 ^ m → beN (jr n m) = n
  | 0, n, h => by have : n = 0 := by simpa using h
                  subst this; rfl
  | m + 1, n, h => by
    rw [Nat.pow_succ] at h; show beN (jr (n / 256) m ++ [UInt8.ofNat n]) = n
    rw [QI, ke m (n / 256) (by omega), UInt8.toNat_ofNat']; omega
def xx (l : List UInt8) (i m : Nat) : List UInt8 := (l.drop i).take m
theorem zdF {l : List UInt8} {i m : Nat} (h : i + m ≤ l.length) : (xx l i m).length = m := by unfold xx; rw [List.length_take, List.length_drop]; omega
theorem yC {l A B C : List UInt8} {i m : Nat} (h : l = A ++ B ++ C) (hi : A.length = i) (hm : B.length = m) : xx l i m = B := by
 subst h hi hm
 unfold xx
 rw [List.append_assoc, List.drop_left, List.take_left]
theorem zaa {l : List UInt8} {i m j : Nat} (hj : j < m) : (xx l i m)[j]? = l[i + j]? := by
 unfold xx
 rw [List.getElem?_take, if_pos hj, List.getElem?_drop]
def ptB (p : Sp) : List UInt8 := jr (p.x + 1048576).toNat 3 ++ jr (p.y + 1048576).toNat 3 ++ jr p.p.toNat 1
def xC (l : List Sp) : List UInt8 := l.flatMap ptB
def wg (c : Px) : List UInt8 := [bt c.r, bt c.g, bt c.b, bt c.a]
def vT (s : jd) : Nat := if s.era = true then 1 else 0
def uK (s : jd) : List UInt8 := jr s.rad.toNat 2 ++ jr s.spa.toNat 2 ++ wg s.col ++ jr (vT s) 1 ++ jr s.pha.toNat 3
def ji (s : jd) : List UInt8 := jr s.pts.length 1 ++ xC s.pts ++ uK s
def ys (s : jd) : List UInt8 := if j2 s = true then ji s else []
theorem zeS (p : Sp) : (ptB p).length = 7 := by unfold ptB; simp only [List.length_append, zH]
theorem kA (l : List Sp) : (xC l).length = 7 * l.length := by
 induction l with
 | nil => rfl
 | cons p r ih =>
  show (ptB p ++ xC r).length = _
  rw [List.length_append, zeS, ih, List.length_cons]; omega
theorem ZV (a b : List Sp) : xC (a ++ b) = xC a ++ xC b := List.flatMap_append
theorem za3 (a : List Sp) (p : Sp) : xC (a ++ [p]) = xC a ++ ptB p := by
 rw [ZV]
 show xC a ++ (ptB p ++ []) = _
 rw [List.append_nil]
theorem zbe (s : jd) : (uK s).length = 12 := by unfold uK wg; simp only [List.length_append, zH, List.length_cons, List.length_nil]
theorem QN (s : jd) : (ji s).length = 13 + 7 * s.pts.length := by
 unfold ji
 rw [List.length_append, List.length_append, zH, kA, zbe]
 omega
/-! ### Reading -/
def uc (l : List UInt8) : Nat := beN (xx l 0 1)
def VP (l : List UInt8) (i : Nat) : Sp := ⟨(beN (xx l (1 + 7 * i) 3) : Int) - 1048576, (beN (xx l (4 + 7 * i) 3) : Int) - 1048576, (beN (xx l (7 + 7 * i) 1) : Int)⟩
def VO (l : List UInt8) (e : Nat) : Px := ⟨((l.getD e 0).toNat : Int), ((l.getD (e + 1) 0).toNat : Int), ((l.getD (e + 2) 0).toNat : Int), ((l.getD (e + 3) 0).toNat : Int)⟩
def pkS (l : List UInt8) (n : Nat) : jd := ⟨(List.range n).map (VP l), (beN (xx l (1 + 7 * n) 2) : Int), (beN (xx l (3 + 7 * n) 2) : Int), VO l (5 + 7 * n), decide (beN (xx l (9 + 7 * n) 1) = 1), (beN (xx l (10 + 7 * n) 3) : Int)⟩
def JJ (l : List UInt8) : jd := pkS l (uc l)
def zSt : jd := ⟨[], 0, 0, Px.zero, false, 0⟩
def uj (l : List UInt8) : jd × Int := if l.length < 13 + 7 * uc l then (zSt, 10) else if ys (JJ l) = l then (JJ l, 0) else (zSt, 11)
theorem zeQ (l : List UInt8) (e : Nat) : (VO l e).ok := by
 unfold VO
 have h : ∀ b : UInt8, 0 ≤ (b.toNat : Int) ∧ (b.toNat : Int) ≤ 255 := fun b => by have := b.toNat_lt; omega
 exact ⟨h _, h _, h _, h _⟩
theorem zem (s : jd) : vT s ≤ 1 := by unfold vT; split <;> omega
theorem Vx (s : jd) : xx (ji s) (9 + 7 * s.pts.length) 1 = jr (vT s) 1 :=
 yC (A := jr s.pts.length 1 ++ xC s.pts ++ (jr s.rad.toNat 2 ++ jr s.spa.toNat 2 ++ wg s.col)) (C := jr s.pha.toNat 3) (by unfold ji uK; simp only [List.append_assoc]) (by simp only [List.length_append, zH, kA, wg, List.length_cons, List.length_nil]; omega) (zH _ _)
/-! ### Reading what was written -/
theorem YS (s : jd) (h : s.pts.length ≤ 255) : uc (ji s) = s.pts.length := by
 unfold uc
 rw [yC (i := 0) (m := 1) (A := []) (B := jr s.pts.length 1) (C := xC s.pts ++ uK s) (by unfold ji; simp only [List.append_assoc, List.nil_append]) rfl (zH _ _)]
 exact ke 1 _ (by omega)
theorem zay {s : jd} {i : Nat} {p : Sp} (h : s.pts[i]? = some p) (ok : Qs p) : VP (ji s) i = p := by
 have hi : i < s.pts.length := (List.getElem?_eq_some_iff.1 h).1
 have e : s.pts = s.pts.take i ++ (p :: s.pts.drop (i + 1)) := by
  have := List.take_append_drop i s.pts; rw [List.drop_eq_getElem_cons hi] at this; have hp : s.pts[i] = p := (List.getElem?_eq_some_iff.1 h).2; rw [hp] at this; exact this.symm
 have e2 : ji s = jr s.pts.length 1 ++ xC (s.pts.take i) ++ ptB p ++ (xC (s.pts.drop (i + 1)) ++ uK s) := by
  have e3 : xC s.pts = xC (s.pts.take i) ++ (ptB p ++ xC (s.pts.drop (i + 1))) := by
   conv => lhs; rw [e]
   rw [ZV]
   rfl
  unfold ji; rw [e3]; simp only [List.append_assoc]
 have hA : (jr s.pts.length 1 ++ xC (s.pts.take i)).length = 1 + 7 * i := by rw [List.length_append, zH, kA, List.length_take]; omega
 obtain ⟨o1, o2, o3, o4, o5, o6⟩ := ok
 have h1 : xx (ji s) (1 + 7 * i) 3 = jr (p.x + 1048576).toNat 3 := yC (A := jr s.pts.length 1 ++ xC (s.pts.take i)) (C := jr (p.y + 1048576).toNat 3 ++ (jr p.p.toNat 1 ++ (xC (s.pts.drop (i + 1)) ++ uK s))) (by rw [e2]; unfold ptB; simp only [List.append_assoc]) hA (zH _ _)
 have h2 : xx (ji s) (4 + 7 * i) 3 = jr (p.y + 1048576).toNat 3 := yC (A := jr s.pts.length 1 ++ xC (s.pts.take i) ++ jr (p.x + 1048576).toNat 3) (C := jr p.p.toNat 1 ++ (xC (s.pts.drop (i + 1)) ++ uK s)) (by rw [e2]; unfold ptB; simp only [List.append_assoc]) (by rw [List.length_append, hA, zH]; omega) (zH _ _)
 have h3 : xx (ji s) (7 + 7 * i) 1 = jr p.p.toNat 1 := yC (A := jr s.pts.length 1 ++ xC (s.pts.take i) ++ jr (p.x + 1048576).toNat 3 ++ jr (p.y + 1048576).toNat 3) (C := xC (s.pts.drop (i + 1)) ++ uK s) (by rw [e2]; unfold ptB; simp only [List.append_assoc]) (by rw [List.length_append, List.length_append, hA, zH, zH]; omega) (zH _ _)
 unfold VP
 rw [h1, h2, h3, ke 3 _ (by omega), ke 3 _ (by omega), ke 1 _ (by omega)]
 obtain ⟨x, y, z⟩ := p
 simp only at o1 o2 o3 o4 o5 o6 ⊢
 congr 1 <;> omega
theorem zaY {s : jd} (h : JI s) (hc : s.col.ok) : JJ (ji s) = s := by
 have hl1 := h.l1
 have hl2 := h.l2
 unfold JJ
 rw [YS s (by omega)]
 have hpts : (List.range s.pts.length).map (VP (ji s)) = s.pts := by
  apply List.ext_getElem?
  intro i; rw [List.getElem?_map]; by_cases hi : i < s.pts.length
  ·rw [List.getElem?_range hi, List.getElem?_eq_getElem hi]
   show some _ = some _
   congr 1
   exact zay (List.getElem?_eq_getElem hi) (h.ok _ (List.getElem_mem hi))
  ·rw [List.getElem?_eq_none (by rw [List.length_range]; omega), List.getElem?_eq_none (by omega)]
   rfl
 have hH : (jr s.pts.length 1 ++ xC s.pts).length = 1 + 7 * s.pts.length := by rw [List.length_append, zH, kA]
 have h1 : xx (ji s) (1 + 7 * s.pts.length) 2 = jr s.rad.toNat 2 := yC (A := jr s.pts.length 1 ++ xC s.pts) (C := jr s.spa.toNat 2 ++ (wg s.col ++ (jr (vT s) 1 ++ jr s.pha.toNat 3))) (by unfold ji uK; simp only [List.append_assoc]) hH (zH _ _)
 have h2 : xx (ji s) (3 + 7 * s.pts.length) 2 = jr s.spa.toNat 2 := yC (A := jr s.pts.length 1 ++ xC s.pts ++ jr s.rad.toNat 2) (C := wg s.col ++ (jr (vT s) 1 ++ jr s.pha.toNat 3)) (by unfold ji uK; simp only [List.append_assoc]) (by rw [List.length_append, hH, zH]; omega) (zH _ _)
 have h3 : xx (ji s) (5 + 7 * s.pts.length) 4 = wg s.col := yC (A := jr s.pts.length 1 ++ xC s.pts ++ jr s.rad.toNat 2 ++ jr s.spa.toNat 2) (C := jr (vT s) 1 ++ jr s.pha.toNat 3) (by unfold ji uK; simp only [List.append_assoc]) (by rw [List.length_append, List.length_append, hH, zH, zH]; omega) rfl
 have h4 := Vx s
 have h5 : xx (ji s) (10 + 7 * s.pts.length) 3 = jr s.pha.toNat 3 := yC (A := jr s.pts.length 1 ++ xC s.pts ++ (jr s.rad.toNat 2 ++ jr s.spa.toNat 2 ++ wg s.col ++ jr (vT s) 1)) (C := []) (by unfold ji uK; simp only [List.append_assoc, List.append_nil]) (by simp only [List.length_append, zH, kA, wg, List.length_cons, List.length_nil]; omega) (zH _ _)
 have hcol : VO (ji s) (5 + 7 * s.pts.length) = s.col := by
  have g : ∀ (j : Nat) (x : Int), j < 4 → (wg s.col)[j]? = some (bt x) → 0 ≤ x ∧ x ≤ 255 → (((ji s).getD (5 + 7 * s.pts.length + j) 0).toNat : Int) = x := fun j x hj hx hb => by
   rw [← h3, zaa hj] at hx; rw [List.getD_eq_getElem?_getD, hx]; exact (QL hb).symm
  obtain ⟨c1, c2, c3, c4⟩ := hc; have g0 := g 0 _ (by omega) rfl c1; have g1 := g 1 _ (by omega) rfl c2; have g2 := g 2 _ (by omega) rfl c3; have g3 := g 3 _ (by omega) rfl c4; rw [Nat.add_zero] at g0; unfold VO; rw [g0, g1, g2, g3]
 have r1 := h.r1
 have r2 := h.r2
 have s1 := h.s1
 have s2 := h.s2
 have p1 := h.p1
 have p2 := h.p2
 unfold pkS
 rw [hpts, h1, h2, h4, h5, hcol, ke 2 _ (by omega), ke 2 _ (by omega), ke 3 _ (by omega), ke 1 _ (by have := zem s; omega)]
 obtain ⟨ps, r, sp, c, er, ph⟩ := s
 simp only at r1 r2 s1 s2 p1 p2 ⊢
 have e1 : (decide (vT ⟨ps, r, sp, c, er, ph⟩ = 1)) = er := by unfold vT; cases er <;> rfl
 rw [e1]
 congr 1 <;> omega
theorem VY {s : jd} (h : JI s) (hc : s.col.ok) : uj (ys s) = (s, 0) := by
 have hb : ys s = ji s := if_pos ((xk s).2 h)
 have hp := zaY h hc
 have hn := YS s (by have := h.l2; omega)
 unfold uj
 rw [hb, hp, hn, QN, if_neg (by omega), hb, if_pos rfl]
theorem Jj {l : List UInt8} (h : l.length < 13 + 7 * uc l) : uj l = (zSt, 10) := if_pos h
theorem za6 {l : List UInt8} (h : ¬ l.length < 13 + 7 * uc l) (k : ¬ ys (JJ l) = l) : uj l = (zSt, 11) := by unfold uj; rw [if_neg h, if_neg k]
theorem zeV {l : List UInt8} (h : ¬ l.length < 13 + 7 * uc l) (k : ys (JJ l) = l) : uj l = (JJ l, 0) := by unfold uj; rw [if_neg h, if_pos k]
end Go.Proofs.YtepelndbbhdofaaGreatDoor
/- Plain: polygons: which rays cross an edge, the coverage of a pixel, the rectangle from the least to the greatest coordinates. -/
namespace Go.Proofs.YtepelndbbhdofaaGreatDoor
open Go.RowKit Pl
set_option linter.unusedVariables false
set_option linter.unusedSimpArgs false
abbrev wJ := Int × Int
def zgH (p : wJ) : Bool := decide (p.1 < -65536 ∨ p.2 < -65536 ∨ 65536 < p.1 ∨ 65536 < p.2)
def zhW (l : List wJ) : Prop := ∀ p ∈ l, zgH p = false
def zdJ (l : List wJ) : Bool := decide (3 ≤ l.length ∧ l.length ≤ 64) && l.all fun p => !zgH p
/-- The ray from (u, v) to the right crosses the edge from a up to b. -/
def zgD (a b : wJ) (u v : Int) : Bool := decide (a.2 ≤ v ∧ v < b.2 ∧ (u - a.1) * (b.2 - a.2) < (b.1 - a.1) * (v - a.2))
def crs (a b : wJ) (u v : Int) : Bool := if b.2 < a.2 then zgD b a u v else zgD a b u v
def pt8 (p : wJ) : wJ := (8 * p.1, 8 * p.2)
def ptG (l : List wJ) (i : Nat) : wJ := l.getD i (0, 0)
def zgG (l : List wJ) (u v : Int) (i : Nat) : Bool := crs (pt8 (ptG l i)) (pt8 (ptG l ((i + 1) % l.length))) u v
/-- The parity of a sequence of answers. -/
def zgV (f : Nat → Bool) : Nat → Bool
 | 0 => false
 | k + 1 => Bool.xor (zgV f k) (f k)
def zhu (l : List wJ) (u v : Int) : Bool := zgV (zgG l u v) l.length
def zhB (l : List wJ) (x y : Int) (i : Nat) : Bool := zhu l (8 * x + 2 * ((i : Int) % 4) + 1) (8 * y + 2 * ((i : Int) / 4) + 1)
def zgy (f : Nat → Bool) : Nat → Nat
 | 0 => 0
 | k + 1 => zgy f k + (if f k = true then 1 else 0)
def zhk (n : Nat) : Int := (255 * (n : Int) + 8) / 16
def zgA (l : List wJ) (x y : Int) : Int := zhk (zgy (zhB l x y) 16)
/-! ### The rectangle from the least to the greatest coordinates -/
def WC (r : Rc) (p : wJ) : Rc := ⟨min r.x0 p.1, min r.y0 p.2, max r.x1 p.1, max r.y1 p.2⟩
def ptR (p : wJ) : Rc := ⟨p.1, p.2, p.1, p.2⟩
def zgP : List wJ → Rc
 | [] => Rc.zero
 | p :: r => r.foldl WC (ptR p)
/-- Each point lies within the rectangle; each side bears one. -/
structure Vj (r : Rc) (l : List wJ) : Prop where
 h1 : ∀ p ∈ l, r.x0 ≤ p.1 ∧ p.1 ≤ r.x1 ∧ r.y0 ≤ p.2 ∧ p.2 ≤ r.y1
 l1 : ∃ p ∈ l, p.1 = r.x0
 l2 : ∃ p ∈ l, p.1 = r.x1
 l3 : ∃ p ∈ l, p.2 = r.y0
 l4 : ∃ p ∈ l, p.2 = r.y1
theorem Vj.grow {r : Rc} {l : List wJ} (h : Vj r l) (p : wJ) : Vj (WC r p) (l ++ [p]) := by
 obtain ⟨h1, ⟨a, ha, ea⟩, ⟨b, hb, eb⟩, ⟨c, hc, ec⟩, ⟨d, hd, ed⟩⟩ := h
 have hp : p ∈ l ++ [p] := List.mem_append_right _ (List.mem_cons_self ..)
 have hl : ∀ {q}, q ∈ l → q ∈ l ++ [p] := fun hq => List.mem_append_left _ hq
 unfold WC
 constructor
 ·intro q hq
  show min r.x0 p.1 ≤ q.1 ∧ q.1 ≤ max r.x1 p.1 ∧ min r.y0 p.2 ≤ q.2 ∧ q.2 ≤ max r.y1 p.2
  rcases List.mem_append.1 hq with hq | hq
  ·have := h1 q hq; omega
  ·obtain rfl : q = p := by simpa using hq
   omega
 ·show ∃ q ∈ l ++ [p], q.1 = min r.x0 p.1
  by_cases h : r.x0 ≤ p.1
  ·exact ⟨a, hl ha, by omega⟩
  ·exact ⟨p, hp, by omega⟩
 ·show ∃ q ∈ l ++ [p], q.1 = max r.x1 p.1
  by_cases h : p.1 ≤ r.x1
  ·exact ⟨b, hl hb, by omega⟩
  ·exact ⟨p, hp, by omega⟩
 ·show ∃ q ∈ l ++ [p], q.2 = min r.y0 p.2
  by_cases h : r.y0 ≤ p.2
  ·exact ⟨c, hl hc, by omega⟩
  ·exact ⟨p, hp, by omega⟩
 ·show ∃ q ∈ l ++ [p], q.2 = max r.y1 p.2
  by_cases h : p.2 ≤ r.y1
  ·exact ⟨d, hl hd, by omega⟩
  ·exact ⟨p, hp, by omega⟩
/-- What the program's loop has behind k points; its first round takes the first point anew. -/
def zhT (l : List wJ) (k : Nat) : Rc := (l.take k).foldl WC (ptR (ptG l 0))
def zfF (l : List wJ) : Rc := if zdJ l = true then kQ (zgP l) else Rc.zero
/-! ### A pixel outside of the rectangle is not covered -/
def zhl (l : List wJ) (x y : Int) : Int := if qU (zfF l) x y = true then zgA l x y else 0
def zhm (l : List wJ) (x y : Int) : Int := if zdJ l = true ∧ -70000 ≤ x ∧ -70000 ≤ y ∧ x ≤ 70000 ∧ y ≤ 70000 then zgA l x y else 0
/- Plain: a polygon shifted, turned round, told from another point or in the other order: the same coverage. -/
def shp (d : wJ) (p : wJ) : wJ := (p.1 + d.1, p.2 + d.2)
/-- The list of the points at k, k + 1 .. of another one, shifted. -/
def ziG (l : List wJ) (k : Nat) (d : wJ) : List wJ := (List.range l.length).map fun i => shp d (ptG l ((i + k) % l.length))
def ziF (l : List wJ) (k : Nat) : List wJ := (List.range l.length).map fun i => ptG l ((l.length + k - i) % l.length)
/-! ### The polygon that numbers describe -/
def zgT (q : List Int) (i : Nat) : Int := q.getD i 0
def zgX (q : List Int) : Nat := min (q.length / 2) 12
def zgY (q : List Int) (j : Nat) : wJ := (zgT q (2 * j) % 28 - 8, zgT q (2 * j + 1) % 28 - 8)
def zgW (q : List Int) (k : Nat) : List wJ := (List.range k).map (zgY q)
def zhZ (q : List Int) : List wJ := zgW q (zgX q)
end Go.Proofs.YtepelndbbhdofaaGreatDoor
/- Slices of points; calls of function values. -/
namespace Go.Proofs.YtepelndbbhdofaaGreatDoor
open Go.RowKit Go.Shelf Pl
set_option linter.unusedVariables false
set_option linter.unusedSimpArgs false
set_option maxRecDepth 20000
section
variable {P : Program} {ops : Array Oper} {Q : Exit → Act → World → Prop} {w : World}
theorem Vg {g : FuncId} {x : Operand} {xs : Array Operand} {ats : Array TypeId} {o : Oper} {a : Act} {K : Act → World → Prop} {vals lb : Array Value} (ho : o.op = .call { callee := .value x, args := xs, argTypes := ats }) (hx : a.eval x = .func (.func g) #[] lb) (eg : Go.Proofs.Enters P g) (hv : xs.map a.eval = vals)
  (h : Calls P g (vals ++ lb) w fun e w' => ∃ v, e = .returned v ∧ K (a.put o.dst v) w') : o.wp P a w K Q := by
 subst hv
 obtain ⟨dst, op, ty, pos, after, guard⟩ := o
 simp only at ho
 subst ho
 unfold Oper.wp
 have key : ∀ ρ : Operand → Value, ρ x = .func (.func g) #[] lb → (execOp ρ { dst, op := .call { callee := .value x, args := xs, argTypes := ats }, type := ty, pos, after, guard : Oper }).run P w = .ok (.enter g (xs.map ρ ++ lb)) w := fun ρ hρ => by
  have := eg (xs.map ρ ++ lb) w; simp [go_sem, hρ, this]
 rw [key a.eval hx]
 exact Calls.mono h fun e w' ⟨v, he, hk⟩ => by subst he; exact hk
theorem qR {g : FuncId} {x : Operand} {xs : Array Operand} {ats : Array TypeId} {o : Oper} {r : List Oper} {a : Act} {vals lb : Array Value} (hw : Region.wanted o (yielded ops a.tmps) = true) (ho : o.op = .call { callee := .value x, args := xs, argTypes := ats }) (hx : a.eval x = .func (.func g) #[] lb) (eg : Go.Proofs.Enters P g) (hv : xs.map a.eval = vals)
  (h : Calls P g (vals ++ lb) w fun e w' => ∃ v, e = .returned v ∧ wpList P ops Q r (a.put o.dst v) w') : wpList P ops Q (o :: r) a w := by
 unfold wpList
 rw [if_pos hw]
 exact .inl (Vg ho hx eg hv h)
end
/- Contracts of package stroke and of its reference: in, length, total. -/
theorem y5 (x : Int) (b : Bool) (w : World) (e : ZR x = b) : Calls Tryz.prog 53 #[.int .i64 x] w fun e w' => e = .returned (.bool b) ∧ Below w.heap.size w w' := by
 by_cases h0 : -1048576 ≤ x
 ·by_cases h1 : x < 1048576
  ·obtain rfl : b = true := by rw [← e]; unfold ZR; exact decide_eq_true (by omega)
   have d0 : decide (-1048576 ≤ x) = true := decide_eq_true h0; have d1 : decide (x < 1048576) = true := decide_eq_true h1; clear e; go_enter Tryz.func53, Tryz.ntmps53
   go_wp2; go_ret; exact ⟨rfl, by go_grown⟩
  ·obtain rfl : b = false := by rw [← e]; unfold ZR; exact decide_eq_false (by omega)
   have d0 : decide (-1048576 ≤ x) = true := decide_eq_true h0; have d1 : decide (x < 1048576) = false := decide_eq_false h1; clear e; go_enter Tryz.func53, Tryz.ntmps53
   go_wp2; go_ret; exact ⟨rfl, by go_grown⟩
 ·obtain rfl : b = false := by rw [← e]; unfold ZR; exact decide_eq_false (by omega)
  have d0 : decide (-1048576 ≤ x) = false := decide_eq_false h0; clear e; go_enter Tryz.func53, Tryz.ntmps53
  go_wp2; go_ret; exact ⟨rfl, by go_grown⟩
/-! ### length -/
theorem zf7 {n : Nat} {l : Nat} : (decide ((n : Int) < ((l : Int) + 1) * ((l : Int) + 1))) = decide (sqN n ≤ l) := by
 rw [Bool.eq_iff_iff, decide_eq_true_iff, decide_eq_true_iff]
 have h := VE (n := n) (s := l + 1)
 have e : ((l : Int) + 1) * ((l : Int) + 1) = (((l + 1) * (l + 1) : Nat) : Int) := by rw [Int.natCast_mul]; rfl
 rw [e]
 omega
theorem zbd {n : Nat} (h : n < 17592186044416) : sqN n < 4194304 := by
 rcases Nat.lt_or_ge (sqN n) 4194304 with k | k
 ·exact k
 ·have := VE.1 k
  omega
theorem zbV (l n : Nat) (b : Nat) (r : Bool) (w : World) (n1 : zK 3 w b #[.int .i64 (n : Int)]) (hl : l ≤ 4194304) (e : decide (sqN n ≤ l) = r) : Calls Tryz.prog 156 #[.int .i64 (l : Int), .pointer (some ⟨b, 0, none⟩)] w fun e w' => e = .returned (.bool r) ∧ Below w.heap.size w w' := by
 have B := Below.refl w.heap.size w
 have hm := j5 (a := (l : Int) + 1) (b := (l : Int) + 1) (m := 4194305) (k := 4194305) (by omega) (by omega) (by omega) (by omega)
 rw [← zf7] at e
 have E := Lib.hid e
 clear e
 go_enter Tryz.func156, Tryz.ntmps156
 go_upto_region 1 with fail
 refine wp_region_lit ?_
 refine zy 8 ?_
 refine wpList_nil ?_
 go_wp2
 go_ret
 exact ⟨by (rw [← E.out]) <;> rfl, B⟩
set_option maxHeartbeats 1000000 in
theorem Vp (n : Nat) (b : Nat) (w : World) (n1 : zK 3 w b #[.int .i64 (n : Int)]) (hn : n < 17592186044416) : Calls Tryz.prog 155 #[.int .i64 4194304, .func (.func 156) #[] #[.pointer (some ⟨b, 0, none⟩)]] w fun e w' => e = .returned (.int .i64 (sqN n : Nat)) ∧ Below w.heap.size w w' := by
 have B := Below.refl w.heap.size w
 have hs := zbd hn
 obtain ⟨s, hsq⟩ : ∃ s, sqN n = s := ⟨_, rfl⟩
 rw [hsq] at hs ⊢
 have HSQ := Lib.hid hsq
 have N1 := Lib.hid n1
 clear hsq n1
 go_enter Tryz.func155, Tryz.ntmps155
 go_upto_region 1 with fail
 refine wp_region_lit ?_
 refine zy 3 ?_
 refine wpList_nil ?_
 go_wp2
 go_loopw [5, 6, 7] (fun i j _ wr => ∃ p q : Nat, p ≤ s ∧ s ≤ q ∧ q ≤ 4194304 ∧ i = .int .i64 (p : Int) ∧ j = .int .i64 (q : Int) ∧ Below w.heap.size w wr) (fun i j _ _ => (intOf j - intOf i).toNat)
 case atStart => exact ⟨0, 4194304, by omega, by omega, Nat.le_refl _, rfl, rfl, B⟩
 case round =>
  clear B; obtain ⟨p, q, h1, h2, h3, rfl, rfl, B⟩ := hrel; have n1 := N1.out.of_eq (B.block _ N1.out.lt); by_cases hpq : p < q
  ·have q1 : decide ((p : Int) < (q : Int)) = true := decide_eq_true (by omega)
   have q2 : decide (p < q) = true := decide_eq_true hpq; by_cases hcut : (p + q) / 2 < s
   ·have hm : (p + q) / 2 ≤ 4194304 := by omega
    obtain ⟨m, hmm⟩ : ∃ m, (p + q) / 2 = m := ⟨_, rfl⟩; have HQ := Lib.hid (show decide (sqN n ≤ m) = false from by rw [HSQ.out, ← hmm]; exact decide_eq_false (by omega))
    have hmi : ((p : Int) + (q : Int)) / 2 = (m : Int) := by omega
    rw [hmm] at hm hcut; have hmq : m < q := by omega
    clear hmm; go_upto_region 2 with fail
    refine wp_region_lit ?_; refine zy 3 ?_; refine wpList_nil ?_; go_upto_region 3 with fail
    refine wp_region_lit ?_; refine zy 7 ?_; refine wpList_nil ?_; try rw [hmi]
    go_upto_region 4 with fail
    refine wp_region_lit ?_; refine zy 2 ?_; refine qR (by first | rfl | simp [Region.wanted, yielded]) rfl (by simp only [Act.eval, qI]; rfl) (enters_of Tryz.func156 (by kernel_rfl) rfl) (by simp only [Act.eval, qI]; rfl) ?_
    refine (zbV m n b false _ n1 hm HQ.out).mono ?_; rintro e wn ⟨rfl, za⟩; have zf := B.size; have zg := za.size; replace B := B.trans (za.mono B.size)
    (try replace n1 := n1.below za)
    refine ⟨_, rfl, ?_⟩; simp only [zo]; refine zy 1 ?_; refine wpList_nil ?_; go_upto_region 5 with fail
    refine wp_region_lit ?_; refine zy 3 ?_; refine wpList_nil ?_; go_wp2; go_roundw
    case rel => exact ⟨m + 1, q, by omega, h2, h3, by go_num, rfl, B⟩
    case measure => simp [intOf]; omega
   ·have hm : (p + q) / 2 ≤ 4194304 := by omega
    obtain ⟨m, hmm⟩ : ∃ m, (p + q) / 2 = m := ⟨_, rfl⟩; have HQ := Lib.hid (show decide (sqN n ≤ m) = true from by rw [HSQ.out, ← hmm]; exact decide_eq_true (by omega))
    have hmi : ((p : Int) + (q : Int)) / 2 = (m : Int) := by omega
    rw [hmm] at hm hcut; have hmq : p ≤ m ∧ m < q := by omega
    clear hmm; go_upto_region 2 with fail
    refine wp_region_lit ?_; refine zy 3 ?_; refine wpList_nil ?_; go_upto_region 3 with fail
    refine wp_region_lit ?_; refine zy 7 ?_; refine wpList_nil ?_; try rw [hmi]
    go_upto_region 4 with fail
    refine wp_region_lit ?_; refine zy 2 ?_; refine qR (by first | rfl | simp [Region.wanted, yielded]) rfl (by simp only [Act.eval, qI]; rfl) (enters_of Tryz.func156 (by kernel_rfl) rfl) (by simp only [Act.eval, qI]; rfl) ?_
    refine (zbV m n b true _ n1 hm HQ.out).mono ?_; rintro e wn ⟨rfl, za⟩; have zf := B.size; have zg := za.size; replace B := B.trans (za.mono B.size); refine ⟨_, rfl, ?_⟩; simp only [zo]; refine zy 1 ?_; refine wpList_nil ?_; go_upto_region 6 with fail
    refine wp_region_lit ?_; refine zy 2 ?_; refine wpList_nil ?_; go_wp2; go_roundw
    case rel => exact ⟨p, m, h1, by omega, by omega, rfl, rfl, B⟩
    case measure => simp [intOf]; omega
  ·obtain rfl : p = s := by omega
   obtain rfl : q = p := by omega
   go_wp2; go_ret; exact ⟨rfl, B⟩
theorem zeK (a b : Sp) : vn a b = (((vn a b).toNat : Nat) : Int) := by
 have h : 0 ≤ vn a b := by
  have h1 := KX (b.x - a.x); have h2 := KX (b.y - a.y); unfold vn; omega
 omega
set_option maxHeartbeats 1000000 in
theorem YJ (a b : Sp) (t : Int) (w : World) (ha : Qs a) (hb : Qs b) (e : yI a b = t) : Calls Tryz.prog 107 #[.agg (j3.enc a), .agg (j3.enc b)] w fun e w' => e = .returned (.int .i64 t) ∧ Below w.heap.size w w' := by
 have B := Below.refl w.heap.size w
 obtain ⟨a1, a2, a3, a4, _, _⟩ := id ha
 obtain ⟨b1, b2, b3, b4, _, _⟩ := id hb
 have m1 := Xh (x := b.x - a.x) (m := 2097151) (by omega) (by omega)
 have m2 := Xh (x := b.y - a.y) (m := 2097151) (by omega) (by omega)
 have hq := WU ha hb
 have HN := Lib.hid (show (b.x - a.x) * (b.x - a.x) + (b.y - a.y) * (b.y - a.y) = (((vn a b).toNat : Nat) : Int) from zeK a b)
 obtain ⟨n, hn⟩ : ∃ n, (vn a b).toNat = n := ⟨_, rfl⟩
 have HS := Lib.hid (show ((sqN n : Nat) : Int) = t from by rw [← e]; unfold yI; rw [hn])
 have hn2 : n < 17592186044416 := by omega
 rw [hn] at HN
 clear e ha hb hq hn
 go_enter Tryz.func107, Tryz.ntmps107
 go_upto_region 0 with fail
 refine wp_region_lit ?_
 (refine zt (t := 43) rfl _ rfl _ rfl (zY B ?_); clear B; intro b_r2 wn zb zd r2 za zf zk B; simp only [zo])
 (refine zt (t := 43) rfl _ rfl _ rfl (zY B ?_); clear B; intro b_r3 wn zb zd r3 za zf zk B; (try have zh := r2.lt); (try replace r2 := r2.below (za.mono zb)); simp only [zo])
 refine zy 1 ?_
 refine wpList_nil ?_
 go_upto_region 1 with fail
 try have lx_r2 := r2.lt
 try have lx_r3 := r3.lt
 refine zJ 12 [] (by kernel_rfl) (by kernel_rfl) (by kernel_rfl) ?_
 rotate_left 0
 simp only [jZ, Nat.reduceAdd]
 refine kX 12 ?_
 refine qi ?_
 intro wn za hE
 have zf := B.size
 have zg := za.size
 replace B := B.trans (za.mono B.size)
 clear hE
 try simp only [List.drop_succ_cons, List.drop_zero]
 refine zL.normal ?_
 go_upto_region 2 with fail
 refine wp_region_lit ?_
 refine zy 7 ?_
 (refine zr (t := 3) rfl _ (KP _ _ rfl) (zY B ?_); clear B; intro b_n7 wn zb zd n7 za zf zk B; (try have zh := r2.lt); (try have zh := r3.lt); simp only [zo])
 (refine yg (t := 3) rfl _ _ rfl _ 0 rfl _ rfl n7 rfl (qG B (by omega) ?_); clear n7 B; intro wn n7 ze zf zg B; simp only [zo])
 refine wpList_nil ?_
 replace n7 : zK 3 _ b_n7 #[.int .i64 ((b.x - a.x) * (b.x - a.x) + (b.y - a.y) * (b.y - a.y))] := n7
 rw [HN.out] at n7
 go_upto_region 3 with fail
 refine wp_region_lit ?_
 (refine qv rfl (.func (.func 156) #[] #[.pointer (some ⟨b_n7, 0, none⟩)]) (by first | rfl | simp [go_sem, Act.eval]) ?_; simp only [zo])
 refine je (enters_of Tryz.func155 (by kernel_rfl) rfl) (c := Vp n b_n7 _ n7 hn2) (h := ?_)
 rintro e wn ⟨rfl, za⟩
 have zf := B.size
 have zg := za.size
 replace B := B.trans (za.mono B.size)
 refine ⟨_, rfl, ?_⟩
 simp only [zo]
 refine zy 1 ?_
 refine wpList_nil ?_
 go_wp2
 go_ret
 exact ⟨by (rw [HS.out]) <;> rfl, B⟩
/-! ### total -/
theorem zc4 {l : List Sp} {k : Nat} {s t u : Int} (h : jq l k = s) (ht : yI (jJ l k) (jJ l (k + 1)) = t) (hu : s + t = u) : jq l (k + 1) = u := by
 show jq l k + yI (jJ l k) (jJ l (k + 1)) = u
 rw [h, ht, hu]
set_option maxHeartbeats 1000000 in
theorem Wl (v : Value) (l : List Sp) (t : Int) (w : World) (rs : xp j3 v l w) (hn : l.length ≤ 64) (hok : ∀ a ∈ l, Qs a) (e : vc l = t) : Calls Tryz.prog 54 #[v] w fun e w' => e = .returned (.int .i64 t) ∧ Below w.heap.size w w' := by
 have B := Below.refl w.heap.size w
 obtain ⟨a, c, rfl, hc⟩ := rs.len
 have HS := Lib.hid rs
 have HOK := Lib.hid hok
 have HE := Lib.hid e
 clear rs hok e
 go_enter Tryz.func54, Tryz.ntmps54
 go_upto_region 2 with fail
 refine wp_region_lit ?_
 refine zy 1 ?_
 refine wpList_nil ?_
 go_wp2
 go_loopw [3, 4] (fun sv iv wr => ∃ (k : Nat) (s : Int), (k = 0 ∨ k < l.length) ∧ Hid (jq l k = s) ∧ sv = .int .i64 s ∧ iv = .int .i64 ((k : Int) + 1) ∧ Below w.heap.size w wr) (fun _ iv _ => (l.length - intOf iv).toNat)
 case atStart => exact ⟨0, 0, .inl rfl, Lib.hid rfl, rfl, rfl, B⟩
 case round =>
  clear B; obtain ⟨k, s, hk, HP, rfl, rfl, B⟩ := hrel; by_cases hkl : k + 1 < l.length
  ·have q1 : decide ((k : Int) + 1 < (l.length : Int)) = true := decide_eq_true (by omega)
   have q2 : decide (k + 1 < l.length) = true := decide_eq_true hkl; obtain ⟨g, o, rfl, pc0⟩ := HS.out.at (by omega); have pc := pc0.of_eq (B.block _ pc0.lt); clear pc0; have hk0 : k < l.length := by omega
   have q3 : decide (k < l.length) = true := decide_eq_true hk0; have hp := ju hk0; have hp2 := ju hkl; have A1 := Lib.hid (HOK.out _ (List.mem_of_getElem? hp)); have A2 := Lib.hid (HOK.out _ (List.mem_of_getElem? hp2)); obtain ⟨t2, ht2⟩ : ∃ t, yI (jJ l k) (jJ l (k + 1)) = t := ⟨_, rfl⟩; have bd1 := Qu HOK.out k (.inl hk0); have bd0 := YtepelndbbhdofaaGreatDoor.u6 l k; have bd2 := XR A1.out A2.out; have bd3 := Qo (jJ l k) (jJ l (k + 1)); rw [HP.out] at bd1 bd0; rw [ht2] at bd2 bd3; have HST := Lib.hid (zc4 HP.out ht2 rfl); have HT2 := Lib.hid ht2; have hkb : (k : Int) < 64 := by omega
   clear ht2
   generalize hx1 : jJ l k = x1 at *
   generalize hx2 : jJ l (k + 1) = x2 at *
   clear hx1 hx2; go_upto_region 3 with fail
   refine wp_region_lit ?_; refine zy 2 ?_; refine zw (by first | rfl | simp [Region.wanted, yielded]) rfl Tryz.underlying26 rfl ?_; simp only [zo]; refine zy 1 ?_; refine wpList_nil ?_; go_upto_region 5 with fail
   try have lx_pc := pc.lt
   refine zJ 13 [(10, zN ?v2_10)] (by kernel_rfl) (by kernel_rfl) (by kernel_rfl) ?_
   rotate_left 1
   simp only [jZ, Nat.reduceAdd]; refine ub 10 ?_; repeat (first | go_big_quiet_skip | (go_big_quiet_want; first | ((first | refine zn (t := 43) rfl _ _ _ rfl (fun w hw => (jX pc w hw).load Tryz.isAgg43 hp) (by first | rfl | omega) ?_ | refine zn (t := 43) rfl _ _ _ rfl (fun w hw => (jX pc w hw).load Tryz.isAgg43 hp2) (by first | rfl | omega) ?_ | refine qB ?_ | refine qC ?_); simp only [zo]; go_big_quiet_on) | (go_big_quiet_op; go_big_quiet_on)))
   refine wpQuiet_nil ?_; refine zD (by rfl) (by first | rfl | simp [Region.wanted, yielded]) ?_ ?_
   ·intro wn za hE Kx hKx
    have zf := B.size; have zg := za.size; replace B := B.trans (za.mono B.size); refine zP rfl (enters_of Tryz.func107 (by kernel_rfl) rfl) (by simp only [Act.eval, qI]; rfl) ?_
    refine (YJ x1 x2 t2 wn A1.out A2.out HT2.out).mono ?_; rintro e wm ⟨rfl, zl⟩; refine ⟨_, rfl, ?_⟩; have hz := hKx () wm trivial zl
    dsimp only [zN] at hz
    exact hz
   rintro ⟨⟩
   dsimp only [zN]
   simp only [zo]; refine kX 2 ?_; refine qi ?_; intro wn za hE; have zf := B.size; have zg := za.size; replace B := B.trans (za.mono B.size); clear hE; try simp only [List.drop_succ_cons, List.drop_zero]
   refine zL.normal ?_; go_upto_region 4 with fail
   refine wp_region_lit ?_; refine zy 3 ?_; refine wpList_nil ?_; go_wp2; go_roundw
   case rel => exact ⟨k + 1, s + t2, .inr hkl, HST, rfl, by go_num, B⟩
   case measure => simp [intOf]; omega
  ·have q1 : decide ((k : Int) + 1 < (l.length : Int)) = false := decide_eq_false (by omega)
   have q2 : decide (k + 1 < l.length) = false := decide_eq_false hkl; have HF := Lib.hid (show s = t from by
    rw [← HE.out, ← HP.out]; unfold vc
    congr 1
    omega)
   go_upto_region 3 with fail
   refine wp_region_lit ?_; refine zy 2 ?_; refine zw (by first | rfl | simp [Region.wanted, yielded]) rfl Tryz.underlying26 rfl ?_; simp only [zo]; refine zy 1 ?_; refine wpList_nil ?_; go_wp2; go_ret; exact ⟨by (rw [HF.out]) <;> rfl, B⟩
/- Contracts of Valid of package stroke and of its reference. -/
def Zs (a : Sp) : Bool := !decide (Qs a)
theorem zfD (a : Sp) : Zs a = (!ZR a.x || (!ZR a.y || (decide (a.p < 0) || decide (255 < a.p)))) := by
 have h1 : Zs a = true ↔ ¬ Qs a := by unfold Zs; rw [Bool.not_eq_true', decide_eq_false_iff_not]
 have h2 : ∀ x, (!ZR x) = true ↔ ¬ (-1048576 ≤ x ∧ x ≤ 1048575) := fun x => by unfold ZR; rw [Bool.not_eq_true', decide_eq_false_iff_not]
 rw [Bool.eq_iff_iff, h1, Bool.or_eq_true, Bool.or_eq_true, Bool.or_eq_true, h2, h2, decide_eq_true_iff, decide_eq_true_iff]
 unfold Qs
 omega
def idxS (l : List Sp) : Nat := l.findIdx Zs
theorem Qn (l : List Sp) : idxS l ≤ l.length := List.findIdx_le_length
theorem WH {l : List Sp} {k : Nat} (h : k < idxS l) : Zs (jJ l k) = false := by
 have hk : k < l.length := Nat.lt_of_lt_of_le h (Qn l)
 have := List.not_of_lt_findIdx (p := Zs) (xs := l) h
 have e := ju hk
 rw [List.getElem?_eq_getElem hk] at e
 rw [← Option.some.inj e]
 simpa using this
theorem WG {l : List Sp} (h : idxS l < l.length) : Zs (jJ l (idxS l)) = true := by
 have := List.findIdx_getElem (p := Zs) (xs := l) (w := h)
 have e := ju h
 rw [List.getElem?_eq_getElem h] at e
 rw [← Option.some.inj e]
 exact this
theorem zfP (l : List Sp) : ug l = true ↔ idxS l = l.length := by
 unfold ug
 rw [decide_eq_true_iff]
 constructor
 ·intro h
  rcases Nat.lt_or_ge (idxS l) l.length with k | k
  ·have h1 := WG k
   unfold Zs at h1; rw [decide_eq_true (h _ (List.mem_of_getElem? (ju k)))] at h1; cases h1
  ·have := Qn l
   omega
 ·intro h a ha
  obtain ⟨k, hk⟩ := List.mem_iff_getElem?.1 ha; have hkl : k < l.length := (List.getElem?_eq_some_iff.1 hk).1; have h1 := WH (l := l) (k := k) (by omega); rw [ju hkl] at hk; obtain rfl := Option.some.inj hk; unfold Zs at h1
  simpa using h1
/-! ### One point -/
set_option maxHeartbeats 1000000 in
theorem ze8 (a : Sp) (b : Bool) (w : World) (e : Zs a = b) : Calls Tryz.prog 52 #[.agg (j3.enc a)] w fun e w' => e = .returned (.bool b) ∧ Below w.heap.size w w' := by
 have B := Below.refl w.heap.size w
 rw [zfD] at e
 obtain ⟨i1, hi1⟩ : ∃ i, ZR a.x = i := ⟨_, rfl⟩
 obtain ⟨i2, hi2⟩ : ∃ i, ZR a.y = i := ⟨_, rfl⟩
 obtain ⟨i3, hi3⟩ : ∃ i, decide (a.p < 0) = i := ⟨_, rfl⟩
 obtain ⟨i4, hi4⟩ : ∃ i, decide (255 < a.p) = i := ⟨_, rfl⟩
 rw [hi1, hi2, hi3, hi4] at e
 have H1 := Lib.hid hi1
 have H2 := Lib.hid hi2
 clear hi1 hi2
 cases i1 with
 | false =>
  obtain rfl : b = true := by rw [← e]; rfl
  clear e; go_enter Tryz.func52, Tryz.ntmps52
  go_upto_region 0 with fail
  refine wp_region_lit ?_
  (refine zt (t := 43) rfl _ rfl _ rfl (zY B ?_); clear B; intro b_r1 wn zb zd r1 za zf zk B; simp only [zo])
  refine zy 1 ?_; refine wpList_nil ?_; go_upto_region 1 with fail
  refine wp_region_lit ?_; refine zy 2 ?_
  refine je (enters_of Tryz.func53 (by kernel_rfl) rfl) (c := y5 a.x false _ H1.out) (h := ?_); rintro e wn ⟨rfl, za⟩; have zf := B.size; have zg := za.size; replace B := B.trans (za.mono B.size)
  (try replace r1 := r1.below za)
  refine ⟨_, rfl, ?_⟩; simp only [zo]; refine zy 4 ?_
  refine qP ?hs2_7 ?_
  case hs2_7 => kernel_rfl
  simp only [zo]; refine zy 13 ?_
  refine wpList_nil ?_; go_wp2; go_ret; exact ⟨rfl, B⟩
 | true =>
  cases i2 with
  | false =>
   obtain rfl : b = true := by rw [← e]; rfl
   clear e; go_enter Tryz.func52, Tryz.ntmps52
   go_upto_region 0 with fail
   refine wp_region_lit ?_
   (refine zt (t := 43) rfl _ rfl _ rfl (zY B ?_); clear B; intro b_r1 wn zb zd r1 za zf zk B; (try have zh := r1.lt); (try replace r1 := r1.below (za.mono zb)); simp only [zo])
   refine zy 1 ?_; refine wpList_nil ?_; go_upto_region 1 with fail
   refine wp_region_lit ?_; refine zy 2 ?_
   refine je (enters_of Tryz.func53 (by kernel_rfl) rfl) (c := y5 a.x true _ H1.out) (h := ?_); rintro e wn ⟨rfl, za⟩; have zf := B.size; have zg := za.size; replace B := B.trans (za.mono B.size)
   (try replace r1 := r1.below za)
   refine ⟨_, rfl, ?_⟩; simp only [zo]; refine zy 4 ?_
   refine je (enters_of Tryz.func53 (by kernel_rfl) rfl) (c := y5 a.y false _ H2.out) (h := ?_); rintro e wn ⟨rfl, za⟩; have zf := B.size; have zg := za.size; replace B := B.trans (za.mono B.size)
   (try replace r1 := r1.below za)
   refine ⟨_, rfl, ?_⟩; simp only [zo]; refine zy 13 ?_
   refine wpList_nil ?_; go_wp2; go_ret; exact ⟨rfl, B⟩
  | true =>
   obtain rfl : b = (i3 || i4) := by rw [← e]; cases i3 <;> cases i4 <;> rfl
   clear e; cases i3 <;> cases i4 <;> (
    go_enter Tryz.func52, Tryz.ntmps52
    go_upto_region 0 with fail
    refine wp_region_lit ?_
    (refine zt (t := 43) rfl _ rfl _ rfl (zY B ?_); clear B; intro b_r1 wn zb zd r1 za zf zk B; (try have zh := r1.lt); (try replace r1 := r1.below (za.mono zb)); simp only [zo])
    refine zy 1 ?_; refine wpList_nil ?_; go_upto_region 1 with fail
    refine wp_region_lit ?_; refine zy 2 ?_
    refine je (enters_of Tryz.func53 (by kernel_rfl) rfl) (c := y5 a.x true _ H1.out) (h := ?_); rintro e wn ⟨rfl, za⟩; have zf := B.size; have zg := za.size; replace B := B.trans (za.mono B.size)
    (try replace r1 := r1.below za)
    refine ⟨_, rfl, ?_⟩; simp only [zo]; refine zy 4 ?_
    refine je (enters_of Tryz.func53 (by kernel_rfl) rfl) (c := y5 a.y true _ H2.out) (h := ?_); rintro e wn ⟨rfl, za⟩; have zf := B.size; have zg := za.size; replace B := B.trans (za.mono B.size)
    (try replace r1 := r1.below za)
    refine ⟨_, rfl, ?_⟩; simp only [zo]; refine zy 13 ?_
    refine wpList_nil ?_; go_wp2; go_ret; exact ⟨rfl, B⟩)
set_option maxHeartbeats 1000000 in
theorem YB (v : Value) (l : List Sp) (r : Int) (w : World) (rs : xp j3 v l w) (hn : l.length ≤ 17592186044416) (e : (if idxS l < l.length then (idxS l : Int) else -1) = r) : Calls Tryz.prog 106 #[v, .func (.func 52) #[] #[]] w fun e w' => e = .returned (.int .i64 r) ∧ Below w.heap.size w w' := by
 have B := Below.refl w.heap.size w
 obtain ⟨a, c, rfl, hc⟩ := rs.len
 have HS := Lib.hid rs
 have zb := Qn l
 obtain ⟨m, hm⟩ : ∃ m, idxS l = m := ⟨_, rfl⟩
 have HLT := Lib.hid (fun k (h : k < idxS l) => WH h)
 have HAT := Lib.hid (fun (h : idxS l < l.length) => WG h)
 rw [hm] at zb e HLT HAT
 have HE := Lib.hid e
 clear rs e hm
 go_enter Tryz.func106, Tryz.ntmps106
 go_upto_region 1 with fail
 refine wp_region_lit ?_
 refine zy 1 ?_
 refine zw (by first | rfl | simp [Region.wanted, yielded]) rfl Tryz.underlying26 rfl ?_
 simp only [zo]
 refine zy 1 ?_
 refine wpList_nil ?_
 go_wp2
 go_loopw [5, 8] (fun _ iv wr => ∃ k : Nat, k ≤ m ∧ iv = .int .i64 (k : Int) ∧ Below w.heap.size w wr) (fun _ iv _ => (l.length - intOf iv).toNat)
 case atStart => exact ⟨0, by omega, rfl, B⟩
 case round =>
  clear B; obtain ⟨k, hk, rfl, B⟩ := hrel; by_cases hkl : k < l.length
  ·have q1 : decide ((k : Int) < (l.length : Int)) = true := decide_eq_true (by omega)
   have q2 : decide (k < l.length) = true := decide_eq_true hkl; obtain ⟨g, o, rfl, pc0⟩ := HS.out.at (by omega); have pc := pc0.of_eq (B.block _ pc0.lt); clear pc0; have hp := ju hkl; by_cases hki : k < m
   ·have HB := Lib.hid (show Zs (jJ l k) = false from HLT.out k hki)
    generalize hx1 : jJ l k = x1 at *
    clear hx1; go_upto_region 2 with fail
    refine wp_region_lit ?_; refine zy 1 ?_; refine wpList_nil ?_; go_upto_region 3 with fail
    refine wp_region_lit ?_; refine zy 2 ?_; refine wpList_nil ?_; go_upto_region 4 with fail
    refine wp_region_lit ?_; refine j4 5 ?_; repeat (first | go_big_quiet_skip | (go_big_quiet_want; first | ((first | refine zn (t := 43) rfl _ _ _ rfl (fun w hw => (jX pc w hw).load Tryz.isAgg43 hp) (by first | rfl | omega) ?_ | refine qB ?_ | refine qC ?_); simp only [zo]; go_big_quiet_on) | (go_big_quiet_op; go_big_quiet_on)))
    refine wpQuiet_nil ?_; refine qR (by first | rfl | simp [Region.wanted, yielded]) rfl (by simp only [Act.eval, qI]; rfl) (enters_of Tryz.func52 (by kernel_rfl) rfl) (by simp only [Act.eval, qI]; rfl) ?_
    refine (ze8 x1 false _ HB.out).mono ?_; rintro e wn ⟨rfl, za⟩; have zf := B.size; have zg := za.size; replace B := B.trans (za.mono B.size)
    (try replace pc := pc.below za)
    refine ⟨_, rfl, ?_⟩; simp only [zo]; refine wpList_nil ?_; go_upto_region 6 with fail
    refine wp_region_lit ?_; refine zy 2 ?_; refine wpList_nil ?_; go_wp2; go_roundw
    case rel => exact ⟨k + 1, by omega, by go_num, B⟩
    case measure => simp [intOf]; omega
   ·have HB := Lib.hid (show Zs (jJ l k) = true from by rw [show k = m by omega]; exact HAT.out (by omega))
    generalize hx1 : jJ l k = x1 at *
    clear hx1; go_upto_region 2 with fail
    refine wp_region_lit ?_; refine zy 1 ?_; refine wpList_nil ?_; go_upto_region 3 with fail
    refine wp_region_lit ?_; refine zy 2 ?_; refine wpList_nil ?_; go_upto_region 4 with fail
    refine wp_region_lit ?_; refine j4 5 ?_; repeat (first | go_big_quiet_skip | (go_big_quiet_want; first | ((first | refine zn (t := 43) rfl _ _ _ rfl (fun w hw => (jX pc w hw).load Tryz.isAgg43 hp) (by first | rfl | omega) ?_ | refine qB ?_ | refine qC ?_); simp only [zo]; go_big_quiet_on) | (go_big_quiet_op; go_big_quiet_on)))
    refine wpQuiet_nil ?_; refine qR (by first | rfl | simp [Region.wanted, yielded]) rfl (by simp only [Act.eval, qI]; rfl) (enters_of Tryz.func52 (by kernel_rfl) rfl) (by simp only [Act.eval, qI]; rfl) ?_
    refine (ze8 x1 true _ HB.out).mono ?_; rintro e wn ⟨rfl, za⟩; have zf := B.size; have zg := za.size; replace B := B.trans (za.mono B.size); refine ⟨_, rfl, ?_⟩; simp only [zo]; refine wpList_nil ?_; go_upto_region 5 with fail
    refine wp_region_lit ?_; refine zy 2 ?_; refine wpList_nil ?_; go_wp2; go_ret; exact ⟨by (rw [← HE.out, if_pos (by omega), show k = m by omega]) <;> rfl, B⟩
  ·have q1 : decide ((k : Int) < (l.length : Int)) = false := decide_eq_false (by omega)
   have q2 : decide (k < l.length) = false := decide_eq_false hkl; go_upto_region 2 with fail
   refine wp_region_lit ?_; refine zy 1 ?_; refine wpList_nil ?_; go_upto_region 7 with fail
   refine wp_region_lit ?_; refine zy 1 ?_; refine wpList_nil ?_; go_wp2; go_ret; exact ⟨by (rw [← HE.out, if_neg (by omega)]) <;> rfl, B⟩
theorem ZJ (v : Value) (l : List Sp) (b : Bool) (w : World) (rs : xp j3 v l w) (hn : l.length ≤ 17592186044416) (e : ug l = !b) : Calls Tryz.prog 51 #[v, .func (.func 52) #[] #[]] w fun e w' => e = .returned (.bool b) ∧ Below w.heap.size w w' := by
 have B := Below.refl w.heap.size w
 have zb := Qn l
 have hi := zfP l
 cases b with
 | true =>
  have HE := Lib.hid (show (if idxS l < l.length then (idxS l : Int) else -1) = (idxS l : Int) from if_pos (by rw [e] at hi; have h3 : ¬ idxS l = l.length := (fun k => by have := hi.2 k; cases this); omega))
  have q1 : decide ((0 : Int) ≤ (idxS l : Int)) = true := decide_eq_true (by omega); clear hi e; go_enter Tryz.func51, Tryz.ntmps51
  go_upto_region 1 with fail
  refine wp_region_lit ?_; refine zy 2 ?_; refine je (enters_of Tryz.func106 (by kernel_rfl) rfl) (c := YB _ l (idxS l : Int) _ rs hn HE.out) (h := ?_); rintro e wn ⟨rfl, za⟩; have zf := B.size; have zg := za.size; replace B := B.trans (za.mono B.size); refine ⟨_, rfl, ?_⟩; simp only [zo]; refine zy 2 ?_; refine wpList_nil ?_; go_wp2; go_ret; exact ⟨by first | rfl | simp, B⟩
 | false =>
  have HE := Lib.hid (show (if idxS l < l.length then (idxS l : Int) else -1) = -1 from if_neg (by rw [e] at hi; have := hi.1 rfl; omega))
  have q1 : decide ((0 : Int) ≤ -1) = false := decide_eq_false (by omega); clear hi e; go_enter Tryz.func51, Tryz.ntmps51
  go_upto_region 1 with fail
  refine wp_region_lit ?_; refine zy 2 ?_; refine je (enters_of Tryz.func106 (by kernel_rfl) rfl) (c := YB _ l (-1) _ rs hn HE.out) (h := ?_); rintro e wn ⟨rfl, za⟩; have zf := B.size; have zg := za.size; replace B := B.trans (za.mono B.size); refine ⟨_, rfl, ?_⟩; simp only [zo]; refine zy 2 ?_; refine wpList_nil ?_; go_wp2; go_ret; exact ⟨by first | rfl | simp, B⟩
/-! ### Valid -/
theorem wo {s : jd} (h : (s.pts.length : Int) < 1 ∨ 64 < (s.pts.length : Int) ∨ s.rad < 1 ∨ 256 < s.rad ∨ s.spa < 1 ∨ 4096 < s.spa ∨ s.pha < 0 ∨ 1048575 < s.pha) : j2 s = false := by
 unfold j2 zeL
 rw [decide_eq_false (by omega)]
 rfl
theorem zeM {s : jd} (h : ¬ ((s.pts.length : Int) < 1 ∨ 64 < (s.pts.length : Int) ∨ s.rad < 1 ∨ 256 < s.rad ∨ s.spa < 1 ∨ 4096 < s.spa ∨ s.pha < 0 ∨ 1048575 < s.pha)) : j2 s = (ug s.pts && decide (vc s.pts - s.pha ≤ 1024 * s.spa)) := by
 unfold j2 zeL
 rw [decide_eq_true (by omega)]
 rfl
theorem zaS {l : List Sp} (h : ug l = true) : ∀ a ∈ l, Qs a := of_decide_eq_true h
set_option maxHeartbeats 2000000 in
theorem xM (v : Value) (s : jd) (b : Bool) (w : World) (rs : xp j3 v s.pts w) (hn : s.pts.length ≤ 17592186044416) (e : j2 s = b) : Calls Tryz.prog 16 #[.agg (jE v s)] w fun e w' => e = .returned (.bool b) ∧ Below w.heap.size w w' := by
 have B := Below.refl w.heap.size w
 obtain ⟨a, c, rfl, hc⟩ := rs.len
 by_cases h0 : (s.pts.length : Int) < 1
 ·have q0 : decide ((s.pts.length : Int) < 1) = true := decide_eq_true h0
  have p0 : decide (s.pts.length < 1) = true := decide_eq_true (by omega); obtain rfl : b = false := by rw [← e]; exact wo (by omega)
  clear e; go_enter Tryz.func16, Tryz.ntmps16
  go_upto_region 0 with fail
  refine wp_region_lit ?_
  (refine zt (t := 30) rfl _ rfl _ rfl (zY B ?_); clear B; intro b_r1 wn zb zd r1 za zf zk B; (try have zh := rs.lt); (try replace rs := rs.below (za.mono zb)); simp only [zo])
  refine zy 1 ?_; refine wpList_nil ?_; go_upto_region 1 with fail
  refine wp_region_lit ?_; refine zy 2 ?_
  refine zw (by first | rfl | simp [Region.wanted, yielded]) rfl Tryz.underlying26 rfl ?_; simp only [zo]; refine zy 4 ?_
  refine qP ?hs21_7 ?_
  case hs21_7 => kernel_rfl
  simp only [zo]; refine zy 32 ?_
  refine wpList_nil ?_; go_upto_region 2 with fail
  refine wp_region_lit ?_; refine zy 1 ?_; refine wpList_nil ?_; go_wp2; go_ret; exact ⟨rfl, B⟩
 ·by_cases h1 : 64 < (s.pts.length : Int)
  ·have q0 : decide ((s.pts.length : Int) < 1) = false := decide_eq_false h0
   have q1 : decide (64 < (s.pts.length : Int)) = true := decide_eq_true h1; have p0 : decide (s.pts.length < 1) = false := decide_eq_false (by omega); have p1 : decide (64 < s.pts.length) = true := decide_eq_true (by omega); obtain rfl : b = false := by rw [← e]; exact wo (by omega)
   clear e; go_enter Tryz.func16, Tryz.ntmps16
   go_upto_region 0 with fail
   refine wp_region_lit ?_
   (refine zt (t := 30) rfl _ rfl _ rfl (zY B ?_); clear B; intro b_r1 wn zb zd r1 za zf zk B; (try have zh := r1.lt); (try replace r1 := r1.below (za.mono zb)); (try have zh := rs.lt); (try replace rs := rs.below (za.mono zb)); simp only [zo])
   refine zy 1 ?_; refine wpList_nil ?_; go_upto_region 1 with fail
   refine wp_region_lit ?_; refine zy 2 ?_
   refine zw (by first | rfl | simp [Region.wanted, yielded]) rfl Tryz.underlying26 rfl ?_; simp only [zo]; refine zy 4 ?_
   refine zw (by first | rfl | simp [Region.wanted, yielded]) rfl Tryz.underlying26 rfl ?_; simp only [zo]; refine zy 32 ?_
   refine wpList_nil ?_; go_upto_region 2 with fail
   refine wp_region_lit ?_; refine zy 1 ?_; refine wpList_nil ?_; go_wp2; go_ret; exact ⟨rfl, B⟩
  ·by_cases h2 : s.rad < 1
   ·have q0 : decide ((s.pts.length : Int) < 1) = false := decide_eq_false h0
    have q1 : decide (64 < (s.pts.length : Int)) = false := decide_eq_false h1; have q2 : decide (s.rad < 1) = true := decide_eq_true h2; have p0 : decide (s.pts.length < 1) = false := decide_eq_false (by omega); have p1 : decide (64 < s.pts.length) = false := decide_eq_false (by omega); obtain rfl : b = false := by rw [← e]; exact wo (by omega)
    clear e; go_enter Tryz.func16, Tryz.ntmps16
    go_upto_region 0 with fail
    refine wp_region_lit ?_
    (refine zt (t := 30) rfl _ rfl _ rfl (zY B ?_); clear B; intro b_r1 wn zb zd r1 za zf zk B; (try have zh := r1.lt); (try replace r1 := r1.below (za.mono zb)); (try have zh := rs.lt); (try replace rs := rs.below (za.mono zb)); simp only [zo])
    refine zy 1 ?_; refine wpList_nil ?_; go_upto_region 1 with fail
    refine wp_region_lit ?_; refine zy 2 ?_
    refine zw (by first | rfl | simp [Region.wanted, yielded]) rfl Tryz.underlying26 rfl ?_; simp only [zo]; refine zy 4 ?_
    refine zw (by first | rfl | simp [Region.wanted, yielded]) rfl Tryz.underlying26 rfl ?_; simp only [zo]; refine zy 32 ?_
    refine wpList_nil ?_; go_upto_region 2 with fail
    refine wp_region_lit ?_; refine zy 1 ?_; refine wpList_nil ?_; go_wp2; go_ret; exact ⟨rfl, B⟩
   ·by_cases h3 : 256 < s.rad
    ·have q0 : decide ((s.pts.length : Int) < 1) = false := decide_eq_false h0
     have q1 : decide (64 < (s.pts.length : Int)) = false := decide_eq_false h1; have q2 : decide (s.rad < 1) = false := decide_eq_false h2; have q3 : decide (256 < s.rad) = true := decide_eq_true h3; have p0 : decide (s.pts.length < 1) = false := decide_eq_false (by omega); have p1 : decide (64 < s.pts.length) = false := decide_eq_false (by omega); obtain rfl : b = false := by rw [← e]; exact wo (by omega)
     clear e; go_enter Tryz.func16, Tryz.ntmps16
     go_upto_region 0 with fail
     refine wp_region_lit ?_
     (refine zt (t := 30) rfl _ rfl _ rfl (zY B ?_); clear B; intro b_r1 wn zb zd r1 za zf zk B; (try have zh := r1.lt); (try replace r1 := r1.below (za.mono zb)); (try have zh := rs.lt); (try replace rs := rs.below (za.mono zb)); simp only [zo])
     refine zy 1 ?_; refine wpList_nil ?_; go_upto_region 1 with fail
     refine wp_region_lit ?_; refine zy 2 ?_
     refine zw (by first | rfl | simp [Region.wanted, yielded]) rfl Tryz.underlying26 rfl ?_; simp only [zo]; refine zy 4 ?_
     refine zw (by first | rfl | simp [Region.wanted, yielded]) rfl Tryz.underlying26 rfl ?_; simp only [zo]; refine zy 32 ?_
     refine wpList_nil ?_; go_upto_region 2 with fail
     refine wp_region_lit ?_; refine zy 1 ?_; refine wpList_nil ?_; go_wp2; go_ret; exact ⟨rfl, B⟩
    ·by_cases h4 : s.spa < 1
     ·have q0 : decide ((s.pts.length : Int) < 1) = false := decide_eq_false h0
      have q1 : decide (64 < (s.pts.length : Int)) = false := decide_eq_false h1; have q2 : decide (s.rad < 1) = false := decide_eq_false h2; have q3 : decide (256 < s.rad) = false := decide_eq_false h3; have q4 : decide (s.spa < 1) = true := decide_eq_true h4; have p0 : decide (s.pts.length < 1) = false := decide_eq_false (by omega); have p1 : decide (64 < s.pts.length) = false := decide_eq_false (by omega); obtain rfl : b = false := by rw [← e]; exact wo (by omega)
      clear e; go_enter Tryz.func16, Tryz.ntmps16
      go_upto_region 0 with fail
      refine wp_region_lit ?_
      (refine zt (t := 30) rfl _ rfl _ rfl (zY B ?_); clear B; intro b_r1 wn zb zd r1 za zf zk B; (try have zh := r1.lt); (try replace r1 := r1.below (za.mono zb)); (try have zh := rs.lt); (try replace rs := rs.below (za.mono zb)); simp only [zo])
      refine zy 1 ?_; refine wpList_nil ?_; go_upto_region 1 with fail
      refine wp_region_lit ?_; refine zy 2 ?_
      refine zw (by first | rfl | simp [Region.wanted, yielded]) rfl Tryz.underlying26 rfl ?_; simp only [zo]; refine zy 4 ?_
      refine zw (by first | rfl | simp [Region.wanted, yielded]) rfl Tryz.underlying26 rfl ?_; simp only [zo]; refine zy 32 ?_
      refine wpList_nil ?_; go_upto_region 2 with fail
      refine wp_region_lit ?_; refine zy 1 ?_; refine wpList_nil ?_; go_wp2; go_ret; exact ⟨rfl, B⟩
     ·by_cases h5 : 4096 < s.spa
      ·have q0 : decide ((s.pts.length : Int) < 1) = false := decide_eq_false h0
       have q1 : decide (64 < (s.pts.length : Int)) = false := decide_eq_false h1; have q2 : decide (s.rad < 1) = false := decide_eq_false h2; have q3 : decide (256 < s.rad) = false := decide_eq_false h3; have q4 : decide (s.spa < 1) = false := decide_eq_false h4; have q5 : decide (4096 < s.spa) = true := decide_eq_true h5; have p0 : decide (s.pts.length < 1) = false := decide_eq_false (by omega); have p1 : decide (64 < s.pts.length) = false := decide_eq_false (by omega); obtain rfl : b = false := by rw [← e]; exact wo (by omega)
       clear e; go_enter Tryz.func16, Tryz.ntmps16
       go_upto_region 0 with fail
       refine wp_region_lit ?_
       (refine zt (t := 30) rfl _ rfl _ rfl (zY B ?_); clear B; intro b_r1 wn zb zd r1 za zf zk B; (try have zh := r1.lt); (try replace r1 := r1.below (za.mono zb)); (try have zh := rs.lt); (try replace rs := rs.below (za.mono zb)); simp only [zo])
       refine zy 1 ?_; refine wpList_nil ?_; go_upto_region 1 with fail
       refine wp_region_lit ?_; refine zy 2 ?_
       refine zw (by first | rfl | simp [Region.wanted, yielded]) rfl Tryz.underlying26 rfl ?_; simp only [zo]; refine zy 4 ?_
       refine zw (by first | rfl | simp [Region.wanted, yielded]) rfl Tryz.underlying26 rfl ?_; simp only [zo]; refine zy 32 ?_
       refine wpList_nil ?_; go_upto_region 2 with fail
       refine wp_region_lit ?_; refine zy 1 ?_; refine wpList_nil ?_; go_wp2; go_ret; exact ⟨rfl, B⟩
      ·by_cases h6 : s.pha < 0
       ·have q0 : decide ((s.pts.length : Int) < 1) = false := decide_eq_false h0
        have q1 : decide (64 < (s.pts.length : Int)) = false := decide_eq_false h1; have q2 : decide (s.rad < 1) = false := decide_eq_false h2; have q3 : decide (256 < s.rad) = false := decide_eq_false h3; have q4 : decide (s.spa < 1) = false := decide_eq_false h4; have q5 : decide (4096 < s.spa) = false := decide_eq_false h5; have q6 : decide (s.pha < 0) = true := decide_eq_true h6; have p0 : decide (s.pts.length < 1) = false := decide_eq_false (by omega); have p1 : decide (64 < s.pts.length) = false := decide_eq_false (by omega); obtain rfl : b = false := by rw [← e]; exact wo (by omega)
        clear e; go_enter Tryz.func16, Tryz.ntmps16
        go_upto_region 0 with fail
        refine wp_region_lit ?_
        (refine zt (t := 30) rfl _ rfl _ rfl (zY B ?_); clear B; intro b_r1 wn zb zd r1 za zf zk B; (try have zh := r1.lt); (try replace r1 := r1.below (za.mono zb)); (try have zh := rs.lt); (try replace rs := rs.below (za.mono zb)); simp only [zo])
        refine zy 1 ?_; refine wpList_nil ?_; go_upto_region 1 with fail
        refine wp_region_lit ?_; refine zy 2 ?_
        refine zw (by first | rfl | simp [Region.wanted, yielded]) rfl Tryz.underlying26 rfl ?_; simp only [zo]; refine zy 4 ?_
        refine zw (by first | rfl | simp [Region.wanted, yielded]) rfl Tryz.underlying26 rfl ?_; simp only [zo]; refine zy 32 ?_
        refine wpList_nil ?_; go_upto_region 2 with fail
        refine wp_region_lit ?_; refine zy 1 ?_; refine wpList_nil ?_; go_wp2; go_ret; exact ⟨rfl, B⟩
       ·by_cases h7 : 1048575 < s.pha
        ·have q0 : decide ((s.pts.length : Int) < 1) = false := decide_eq_false h0
         have q1 : decide (64 < (s.pts.length : Int)) = false := decide_eq_false h1; have q2 : decide (s.rad < 1) = false := decide_eq_false h2; have q3 : decide (256 < s.rad) = false := decide_eq_false h3; have q4 : decide (s.spa < 1) = false := decide_eq_false h4; have q5 : decide (4096 < s.spa) = false := decide_eq_false h5; have q6 : decide (s.pha < 0) = false := decide_eq_false h6; have q7 : decide (1048575 < s.pha) = true := decide_eq_true h7; have p0 : decide (s.pts.length < 1) = false := decide_eq_false (by omega); have p1 : decide (64 < s.pts.length) = false := decide_eq_false (by omega); obtain rfl : b = false := by rw [← e]; exact wo (by omega)
         clear e; go_enter Tryz.func16, Tryz.ntmps16
         go_upto_region 0 with fail
         refine wp_region_lit ?_
         (refine zt (t := 30) rfl _ rfl _ rfl (zY B ?_); clear B; intro b_r1 wn zb zd r1 za zf zk B; (try have zh := r1.lt); (try replace r1 := r1.below (za.mono zb)); (try have zh := rs.lt); (try replace rs := rs.below (za.mono zb)); simp only [zo])
         refine zy 1 ?_; refine wpList_nil ?_; go_upto_region 1 with fail
         refine wp_region_lit ?_; refine zy 2 ?_
         refine zw (by first | rfl | simp [Region.wanted, yielded]) rfl Tryz.underlying26 rfl ?_; simp only [zo]; refine zy 4 ?_
         refine zw (by first | rfl | simp [Region.wanted, yielded]) rfl Tryz.underlying26 rfl ?_; simp only [zo]; refine zy 32 ?_
         refine wpList_nil ?_; go_upto_region 2 with fail
         refine wp_region_lit ?_; refine zy 1 ?_; refine wpList_nil ?_; go_wp2; go_ret; exact ⟨rfl, B⟩
        ·have q0 : decide ((s.pts.length : Int) < 1) = false := decide_eq_false h0
         have q1 : decide (64 < (s.pts.length : Int)) = false := decide_eq_false h1; have q2 : decide (s.rad < 1) = false := decide_eq_false h2; have q3 : decide (256 < s.rad) = false := decide_eq_false h3; have q4 : decide (s.spa < 1) = false := decide_eq_false h4; have q5 : decide (4096 < s.spa) = false := decide_eq_false h5; have q6 : decide (s.pha < 0) = false := decide_eq_false h6; have q7 : decide (1048575 < s.pha) = false := decide_eq_false h7; have p0 : decide (s.pts.length < 1) = false := decide_eq_false (by omega); have p1 : decide (64 < s.pts.length) = false := decide_eq_false (by omega); have HV := zeM (s := s) (by omega); rw [HV] at e; clear HV; cases hk : ug s.pts with
         | false =>
          have HK := Lib.hid (show ug s.pts = !true from hk); obtain rfl : b = false := by rw [← e, hk]; rfl
          clear e hk; go_enter Tryz.func16, Tryz.ntmps16
          go_upto_region 0 with fail
          refine wp_region_lit ?_
          (refine zt (t := 30) rfl _ rfl _ rfl (zY B ?_); clear B; intro b_r1 wn zb zd r1 za zf zk B; (try have zh := r1.lt); (try replace r1 := r1.below (za.mono zb)); (try have zh := rs.lt); (try replace rs := rs.below (za.mono zb)); simp only [zo])
          refine zy 1 ?_; refine wpList_nil ?_; go_upto_region 1 with fail
          refine wp_region_lit ?_; refine zy 2 ?_
          refine zw (by first | rfl | simp [Region.wanted, yielded]) rfl Tryz.underlying26 rfl ?_; simp only [zo]; refine zy 4 ?_
          refine zw (by first | rfl | simp [Region.wanted, yielded]) rfl Tryz.underlying26 rfl ?_; simp only [zo]; refine zy 32 ?_
          refine wpList_nil ?_; go_upto_region 3 with fail
          refine wp_region_lit ?_; refine zy 2 ?_
          refine je (enters_of Tryz.func51 (by kernel_rfl) rfl) (c := ZJ _ s.pts true _ rs hn HK.out) (h := ?_); rintro e wn ⟨rfl, za⟩; have zf := B.size; have zg := za.size; replace B := B.trans (za.mono B.size)
          (try replace r1 := r1.below za)
          (try replace rs := rs.below za)
          refine ⟨_, rfl, ?_⟩; simp only [zo]; refine wpList_nil ?_; go_upto_region 4 with fail
          refine wp_region_lit ?_; refine zy 1 ?_; refine wpList_nil ?_; go_wp2; go_ret; exact ⟨rfl, B⟩
         | true =>
          have HK := Lib.hid (show ug s.pts = !false from hk); have HO := Lib.hid (zaS hk); rw [hk, Bool.true_and] at e; have E := Lib.hid e; have HTT : 0 ≤ vc s.pts ∧ vc s.pts ≤ 189812544 := by
           have h1 := Qu HO.out (s.pts.length - 1) (by omega); exact ⟨YtepelndbbhdofaaGreatDoor.u6 _ _, by show jq s.pts (s.pts.length - 1) ≤ _; omega⟩
          obtain ⟨t, ht⟩ : ∃ t, vc s.pts = t := ⟨_, rfl⟩; rw [ht] at E HTT; have HT := Lib.hid ht; clear e hk ht; go_enter Tryz.func16, Tryz.ntmps16
          go_upto_region 0 with fail
          refine wp_region_lit ?_
          (refine zt (t := 30) rfl _ rfl _ rfl (zY B ?_); clear B; intro b_r1 wn zb zd r1 za zf zk B; (try have zh := r1.lt); (try replace r1 := r1.below (za.mono zb)); (try have zh := rs.lt); (try replace rs := rs.below (za.mono zb)); simp only [zo])
          refine zy 1 ?_; refine wpList_nil ?_; go_upto_region 1 with fail
          refine wp_region_lit ?_; refine zy 2 ?_
          refine zw (by first | rfl | simp [Region.wanted, yielded]) rfl Tryz.underlying26 rfl ?_; simp only [zo]; refine zy 4 ?_
          refine zw (by first | rfl | simp [Region.wanted, yielded]) rfl Tryz.underlying26 rfl ?_; simp only [zo]; refine zy 32 ?_
          refine wpList_nil ?_; go_upto_region 3 with fail
          refine wp_region_lit ?_; refine zy 2 ?_
          refine je (enters_of Tryz.func51 (by kernel_rfl) rfl) (c := ZJ _ s.pts false _ rs hn HK.out) (h := ?_); rintro e wn ⟨rfl, za⟩; have zf := B.size; have zg := za.size; replace B := B.trans (za.mono B.size)
          (try replace r1 := r1.below za)
          (try replace rs := rs.below za)
          refine ⟨_, rfl, ?_⟩; simp only [zo]; refine wpList_nil ?_; go_upto_region 5 with fail
          try have lx_r1 := r1.lt
          try have lx_rs := rs.lt
          refine zJ 11 [(2, zN ?v1_2)] (by kernel_rfl) (by kernel_rfl) (by kernel_rfl) ?_
          rotate_left 1
          simp only [jZ, Nat.reduceAdd]; refine kX 2 ?_
          refine zD (by rfl) (by first | rfl | simp [Region.wanted, yielded]) ?_ ?_
          ·intro wn za hE Kx hKx
           have zf := B.size; have zg := za.size; replace B := B.trans (za.mono B.size)
           (try replace r1 := r1.below za)
           (try replace rs := rs.below za)
           refine zP rfl (enters_of Tryz.func54 (by kernel_rfl) rfl) (by simp only [Act.eval, qI]; rfl) ?_
           refine (Wl _ s.pts t wn rs (by omega) HO.out HT.out).mono ?_; rintro e wm ⟨rfl, zl⟩; refine ⟨_, rfl, ?_⟩; have hz := hKx () wm trivial zl
           dsimp only [zN] at hz
           exact hz
          rintro ⟨⟩
          dsimp only [zN]
          simp only [zo]; refine kX 8 ?_
          refine qi ?_; intro wn za hE; have zf := B.size; have zg := za.size; replace B := B.trans (za.mono B.size); clear hE; try simp only [List.drop_succ_cons, List.drop_zero]
          refine zL.normal ?_; go_wp2; go_ret; exact ⟨by (rw [← E.out]) <;> rfl, B⟩
/- Contracts of dab, square, Cover of package stroke and of its reference; of limits, Intersect of the references. -/
set_option maxHeartbeats 1000000 in
theorem ze9 (v : Value) (s : jd) (x y z q : Int) (w : World) (hr : 0 ≤ s.rad ∧ s.rad ≤ 256) (hz : 0 ≤ z ∧ z ≤ 255) (e : qm (s.rad * z) 255 = q) : Calls Tryz.prog 110 #[.agg (jE v s), .int .i64 x, .int .i64 y, .int .i64 z] w fun e w' => e = .returned (.agg #[.int .i64 x, .int .i64 y, .int .i64 q]) ∧ Below w.heap.size w w' := by
 have B := Below.refl w.heap.size w
 have m := j5 (m := 256) (k := 255) hr.1 hr.2 hz.1 hz.2
 have E := Lib.hid e
 clear e
 go_enter Tryz.func110, Tryz.ntmps110
 go_upto_region 0 with fail
 refine wp_region_lit ?_
 (refine zt (t := 30) rfl _ rfl _ rfl (zY B ?_); clear B; intro b_r4 wn zb zd r4 za zf zk B; simp only [zo])
 (refine zr (t := 45) rfl _ (kl _ _ rfl) (zY B ?_); clear B; intro b_d8 wn zb zd d8 za zf zk B; (try have zh := r4.lt); (try replace r4 := r4.below (za.mono zb)); simp only [zo])
 refine wpList_nil ?_
 go_upto_region 1 with fail
 refine wp_region_lit ?_
 refine zy 6 ?_
 refine je (enters_of Tryz.func68 (by kernel_rfl) rfl) (c := vf (s.rad * z) 255 q _ (by omega) (by omega) (by omega) (by omega) E.out) (h := ?_)
 rintro e wn ⟨rfl, za⟩
 have zf := B.size
 have zg := za.size
 replace B := B.trans (za.mono B.size)
 (try replace d8 := d8.below za)
 refine ⟨_, rfl, ?_⟩
 simp only [zo]
 refine zy 1 ?_
 (refine zq (t := 45) rfl _ _ rfl _ rfl _ rfl d8 (by kernel_rfl) rfl (by simp [jV, Value.oneCell']) (qG B (by omega) ?_); clear d8 B; intro wn d8 ze zf zg B; simp only [zo])
 refine wpList_nil ?_
 first | (refine bodyPost_ret (zz (t := 45) rfl _ _ (b_d8) rfl d8 Tryz.isAgg45 (by kernel_rfl)) rfl ?_) | (go_step; refine bodyPost_ret (zz (t := 45) rfl _ _ (b_d8) rfl d8 Tryz.isAgg45 (by kernel_rfl)) rfl ?_) | (go_step; go_step; refine bodyPost_ret (zz (t := 45) rfl _ _ (b_d8) rfl d8 Tryz.isAgg45 (by kernel_rfl)) rfl ?_) | (go_step; go_step; go_step; refine bodyPost_ret (zz (t := 45) rfl _ _ (b_d8) rfl d8 Tryz.isAgg45 (by kernel_rfl)) rfl ?_) | (go_step; go_step; go_step; go_step; refine bodyPost_ret (zz (t := 45) rfl _ _ (b_d8) rfl d8 Tryz.isAgg45 (by kernel_rfl)) rfl ?_) | (go_step; go_step; go_step; go_step; go_step; refine bodyPost_ret (zz (t := 45) rfl _ _ (b_d8) rfl d8 Tryz.isAgg45 (by kernel_rfl)) rfl ?_)
 exact ⟨rfl, B⟩
set_option maxHeartbeats 2000000 in
theorem yW (d : Db) (r : Rc) (w : World) (hx : -1000000000000 ≤ d.x ∧ d.x ≤ 1000000000000) (hy : -1000000000000 ≤ d.y ∧ d.y ≤ 1000000000000) (hr : -1000000000000 ≤ d.r ∧ d.r ≤ 1000000000000) (e : kn d = r) : Calls Tryz.prog 62 #[.agg (vZ.enc d)] w fun e w' => e = .returned (.agg (jV r)) ∧ Below w.heap.size w w' := by
 have B := Below.refl w.heap.size w
 obtain ⟨q1, h1⟩ : ∃ q, (d.x - d.r) / 16 = q := ⟨_, rfl⟩
 obtain ⟨q2, h2⟩ : ∃ q, (d.y - d.r) / 16 = q := ⟨_, rfl⟩
 obtain ⟨q3, h3⟩ : ∃ q, (d.x + d.r) / 16 = q := ⟨_, rfl⟩
 obtain ⟨q4, h4⟩ : ∃ q, (d.y + d.r) / 16 = q := ⟨_, rfl⟩
 obtain rfl : r = ⟨q1, q2, q3 + 1, q4 + 1⟩ := by rw [← e]; unfold kn; rw [h1, h2, h3, h4]
 have b3 : -1000000000000 ≤ q3 ∧ q3 ≤ 1000000000000 := by omega
 have b4 : -1000000000000 ≤ q4 ∧ q4 ≤ 1000000000000 := by omega
 have H1 := Lib.hid h1
 have H2 := Lib.hid h2
 have H3 := Lib.hid h3
 have H4 := Lib.hid h4
 clear e h1 h2 h3 h4
 go_enter Tryz.func62, Tryz.ntmps62
 go_upto_region 0 with fail
 refine wp_region_lit ?_
 (refine zt (t := 45) rfl _ rfl _ rfl (zY B ?_); clear B; intro b_d1 wn zb zd d1 za zf zk B; simp only [zo])
 (refine zr (t := 38) rfl _ (zZ _ _ rfl) (zY B ?_); clear B; intro b_r2 wn zb zd r2 za zf zk B; (try have zh := d1.lt); (try replace d1 := d1.below (za.mono zb)); simp only [zo])
 refine wpList_nil ?_
 go_upto_region 1 with fail
 try have lx_d1 := d1.lt
 try have lx_r2 := r2.lt
 refine zJ 27 [(5, zN ?v1_5), (11, zN ?v1_11), (17, zN ?v1_17), (24, zN ?v1_24)] (by kernel_rfl) (by kernel_rfl) (by kernel_rfl) ?_
 rotate_left 4
 simp only [jZ, Nat.reduceAdd]
 refine kX 5 ?_
 refine zD (by rfl) (by first | rfl | simp [Region.wanted, yielded]) ?_ ?_
 ·intro wn za hE Kx hKx
  have zf := B.size; have zg := za.size; replace B := B.trans (za.mono B.size)
  (try replace d1 := d1.below za)
  (try replace r2 := r2.below za)
  refine zP rfl (enters_of Tryz.func111 (by kernel_rfl) rfl) (by simp only [Act.eval, qI]; rfl) ?_
  refine (v7 (d.x - d.r) 16 q1 wn (by omega) (by omega) (by omega) (by omega) H1.out).mono ?_; rintro e wm ⟨rfl, zl⟩; refine ⟨_, rfl, ?_⟩; have hz := hKx () wm trivial zl
  dsimp only [zN] at hz
  exact hz
 rintro ⟨⟩
 dsimp only [zN]
 simp only [zo]
 refine kX 5 ?_
 refine zD (by rfl) (by first | rfl | simp [Region.wanted, yielded]) ?_ ?_
 ·intro wn za hE Kx hKx
  have zf := B.size; have zg := za.size; replace B := B.trans (za.mono B.size)
  (try replace d1 := d1.below za)
  (try replace r2 := r2.below za)
  refine zP rfl (enters_of Tryz.func111 (by kernel_rfl) rfl) (by simp only [Act.eval, qI]; rfl) ?_
  refine (v7 (d.y - d.r) 16 q2 wn (by omega) (by omega) (by omega) (by omega) H2.out).mono ?_; rintro e wm ⟨rfl, zl⟩; refine ⟨_, rfl, ?_⟩; have hz := hKx () wm trivial zl
  dsimp only [zN] at hz
  exact hz
 rintro ⟨⟩
 dsimp only [zN]
 simp only [zo]
 refine kX 5 ?_
 refine zD (by rfl) (by first | rfl | simp [Region.wanted, yielded]) ?_ ?_
 ·intro wn za hE Kx hKx
  have zf := B.size; have zg := za.size; replace B := B.trans (za.mono B.size)
  (try replace d1 := d1.below za)
  (try replace r2 := r2.below za)
  refine zP rfl (enters_of Tryz.func111 (by kernel_rfl) rfl) (by simp only [Act.eval, qI]; rfl) ?_
  refine (v7 (d.x + d.r) 16 q3 wn (by omega) (by omega) (by omega) (by omega) H3.out).mono ?_; rintro e wm ⟨rfl, zl⟩; refine ⟨_, rfl, ?_⟩; have hz := hKx () wm trivial zl
  dsimp only [zN] at hz
  exact hz
 rintro ⟨⟩
 dsimp only [zN]
 simp only [zo]
 refine kX 6 ?_
 refine zD (by rfl) (by first | rfl | simp [Region.wanted, yielded]) ?_ ?_
 ·intro wn za hE Kx hKx
  have zf := B.size; have zg := za.size; replace B := B.trans (za.mono B.size)
  (try replace r2 := r2.below za)
  refine zP rfl (enters_of Tryz.func111 (by kernel_rfl) rfl) (by simp only [Act.eval, qI]; rfl) ?_
  refine (v7 (d.y + d.r) 16 q4 wn (by omega) (by omega) (by omega) (by omega) H4.out).mono ?_; rintro e wm ⟨rfl, zl⟩; refine ⟨_, rfl, ?_⟩; have hz := hKx () wm trivial zl
  dsimp only [zN] at hz
  exact hz
 rintro ⟨⟩
 dsimp only [zN]
 simp only [zo]
 refine kX 2 ?_
 refine qi ?_
 intro wn za hE
 have zf := B.size
 have zg := za.size
 replace B := B.trans (za.mono B.size)
 (try replace r2 := r2.below za)
 clear hE
 try simp only [List.drop_succ_cons, List.drop_zero]
 go_wp2_with (first | (refine zq (t := 38) rfl _ _ rfl _ rfl _ rfl r2 (by kernel_rfl) rfl (by simp [jV, Value.oneCell']) (qG B (by omega) ?_); clear r2 B; intro wn r2 ze zf zg B; simp only [zo]) | fail)
 refine zL.normal ?_
 first | (refine bodyPost_ret (zz (t := 38) rfl _ _ (b_r2) rfl r2 Tryz.isAgg38 (by kernel_rfl)) rfl ?_) | (go_step; refine bodyPost_ret (zz (t := 38) rfl _ _ (b_r2) rfl r2 Tryz.isAgg38 (by kernel_rfl)) rfl ?_) | (go_step; go_step; refine bodyPost_ret (zz (t := 38) rfl _ _ (b_r2) rfl r2 Tryz.isAgg38 (by kernel_rfl)) rfl ?_) | (go_step; go_step; go_step; refine bodyPost_ret (zz (t := 38) rfl _ _ (b_r2) rfl r2 Tryz.isAgg38 (by kernel_rfl)) rfl ?_) | (go_step; go_step; go_step; go_step; refine bodyPost_ret (zz (t := 38) rfl _ _ (b_r2) rfl r2 Tryz.isAgg38 (by kernel_rfl)) rfl ?_) | (go_step; go_step; go_step; go_step; go_step; refine bodyPost_ret (zz (t := 38) rfl _ _ (b_r2) rfl r2 Tryz.isAgg38 (by kernel_rfl)) rfl ?_)
 exact ⟨rfl, B⟩
theorem YD (r s : Rc) (q : Rc) (w : World) (e : yf r s = q) : Calls Tryz.prog 46 #[.agg (jV r), .agg (jV s)] w fun e w' => e = .returned (.agg (jV q)) ∧ Below w.heap.size w w' := e ▸ ZL r s w
theorem zbR (r s q : Rc) (w : World) (e : j0 r s = q) : Calls Tryz.prog 61 #[.agg (jV r), .agg (jV s)] w fun e w' => e = .returned (.agg (jV q)) ∧ Below w.heap.size w w' := e ▸ zdX r s w
/-! ### Cover -/
theorem KW {d : Db} {x y n : Int} {i j k : Nat} {b : Bool} {σ : Nat → Nat × Nat} (hs : uG d x y σ k = n) (hσ : σ k = (i, j)) (hh : Z9 d x y i j = b) : uG d x y σ (k + 1) = if b = true then n + 1 else n := by
 show uG d x y σ k + (if Z9 d x y (σ k).1 (σ k).2 = true then 1 else 0) = _
 rw [hσ]
 dsimp only
 rw [hh, hs]
 cases b
 ·show n + 0 = n; omega
 ·rfl
def σP : Nat → Nat × Nat := fun k => (k / 4, k % 4)
def σR : Nat → Nat × Nat := fun k => (k % 4, k / 4)
theorem zef {d : Db} {x y n : Int} (h : zaR d = true) (e : vR d x y = n) : qm (255 * V3 d x y) 16 = n := by
 unfold vR at e
 rw [if_pos h] at e
 exact e
theorem Qr {d : Db} (h : d.r < 1 ∨ 256 < d.r ∨ ZR d.x = false ∨ ZR d.y = false) (x y : Int) : vR d x y = 0 := by
 unfold vR
 rw [if_neg]
 intro k
 unfold zaR at k
 rw [Bool.and_eq_true, Bool.and_eq_true, decide_eq_true_iff] at k
 rcases h with h | h | h | h
 ·omega
 ·omega
 ·rw [k.2.1] at h; cases h
 ·rw [k.2.2] at h; cases h
theorem zcU {d : Db} (h1 : ¬ d.r < 1) (h2 : ¬ 256 < d.r) (h3 : ZR d.x = true) (h4 : ZR d.y = true) : zaR d = true := by
 unfold zaR
 rw [decide_eq_true (by omega), h3, h4]
 rfl
theorem zcz {x : Int} (h : ZR x = true) : -1048576 ≤ x ∧ x ≤ 1048575 := of_decide_eq_true h
/-- Where a pixel of the square lies. -/
theorem zdA {d : Db} {x y : Int} (h : qU (kn d) x y = true) (hr : 1 ≤ d.r ∧ d.r ≤ 256) : (-300 ≤ 16 * x - d.x ∧ 16 * x - d.x ≤ 300) ∧ (-300 ≤ 16 * y - d.y ∧ 16 * y - d.y ≤ 300) := by
 have h := (qz _ _ _).1 h
 unfold kn at h
 simp only at h
 omega
theorem Qf (r : Rc) (x y : Int) (b : Bool) (w : World) (e : qU r x y = b) : Calls Tryz.prog 25 #[.agg (jV r), .agg #[.int .i64 x, .int .i64 y]] w fun e w' => e = .returned (.bool b) ∧ Below w.heap.size w w' := e ▸ V8 r x y w
set_option maxHeartbeats 4000000 in
theorem V7 (d : Db) (x y n : Int) (w : World) (hx : -1000000000000 ≤ d.x ∧ d.x ≤ 1000000000000) (hy : -1000000000000 ≤ d.y ∧ d.y ≤ 1000000000000) (hr : -1000000000000 ≤ d.r ∧ d.r ≤ 1000000000000) (e : vR d x y = n) : Calls Tryz.prog 24 #[.agg (vZ.enc d), .int .i64 x, .int .i64 y] w fun e w' => e = .returned (.int .i64 n) ∧ Below w.heap.size w w' := by
 have B := Below.refl w.heap.size w
 obtain ⟨q, hq⟩ : ∃ q, kn d = q := ⟨_, rfl⟩
 have HQ := Lib.hid hq
 clear hq
 by_cases h0 : d.r < 1
 ·have q0 : decide (d.r < 1) = true := decide_eq_true h0
  obtain rfl : n = 0 := by rw [← e]; exact Qr (.inl h0) x y
  clear e ; go_enter Tryz.func24, Tryz.ntmps24
  go_upto_region 0 with fail
  refine wp_region_lit ?_
  (refine zt (t := 45) rfl _ rfl _ rfl (zY B ?_); clear B; intro b_d3 wn zb zd d3 za zf zk B; simp only [zo])
  refine zy 1 ?_; refine wpList_nil ?_; go_upto_region 1 with fail
  refine wp_region_lit ?_; refine zy 1 ?_
  refine je (enters_of Tryz.func62 (by kernel_rfl) rfl) (c := yW d q _ hx hy hr HQ.out) (h := ?_); rintro e wn ⟨rfl, za⟩; have zf := B.size; have zg := za.size; replace B := B.trans (za.mono B.size)
  (try replace d3 := d3.below za)
  refine ⟨_, rfl, ?_⟩; simp only [zo]
  (refine zr (t := 38) rfl _ (zZ _ _ rfl) (zY B ?_); clear B; intro b_r7 wn zb zd r7 za zf zk B; (try have zh := d3.lt); (try replace d3 := d3.below (za.mono zb)); simp only [zo])
  (refine zq (t := 38) rfl _ _ rfl _ rfl _ rfl r7 (by kernel_rfl) rfl (by simp [jV, Value.oneCell']) (qG B (by omega) ?_); clear r7 B; intro wn r7 ze zf zg B; (try replace d3 := d3.of_eq (ze.block _ d3.lt (by omega))); simp only [zo])
  refine wpList_nil ?_; replace r7 : zK 38 _ b_r7 (jV q) := r7; go_upto_region 2 with fail
  refine wp_region_lit ?_; refine zy 11 ?_
  refine qP ?hs11_11 ?_
  case hs11_11 => kernel_rfl
  simp only [zo]; refine zy 5 ?_
  refine qP ?hs11_17 ?_
  case hs11_17 => kernel_rfl
  simp only [zo]; refine zy 7 ?_
  refine qP ?hs11_25 ?_
  case hs11_25 => kernel_rfl
  simp only [zo]; refine zy 2 ?_; refine wpList_nil ?_; go_upto_region 3 with fail
  refine wp_region_lit ?_; refine zy 1 ?_; refine wpList_nil ?_; go_wp2; go_ret; exact ⟨rfl, B⟩
 ·by_cases h1 : 256 < d.r
  ·have q0 : decide (d.r < 1) = false := decide_eq_false h0
   have q1 : decide (256 < d.r) = true := decide_eq_true h1; obtain rfl : n = 0 := by rw [← e]; exact Qr (.inr (.inl h1)) x y
   clear e ; go_enter Tryz.func24, Tryz.ntmps24
   go_upto_region 0 with fail
   refine wp_region_lit ?_
   (refine zt (t := 45) rfl _ rfl _ rfl (zY B ?_); clear B; intro b_d3 wn zb zd d3 za zf zk B; (try have zh := d3.lt); (try replace d3 := d3.below (za.mono zb)); (try have zh := r7.lt); (try replace r7 := r7.below (za.mono zb)); simp only [zo])
   refine zy 1 ?_; refine wpList_nil ?_; go_upto_region 1 with fail
   refine wp_region_lit ?_; refine zy 1 ?_
   refine je (enters_of Tryz.func62 (by kernel_rfl) rfl) (c := yW d q _ hx hy hr HQ.out) (h := ?_); rintro e wn ⟨rfl, za⟩; have zf := B.size; have zg := za.size; replace B := B.trans (za.mono B.size)
   (try replace d3 := d3.below za)
   (try replace r7 := r7.below za)
   refine ⟨_, rfl, ?_⟩; simp only [zo]
   (refine zr (t := 38) rfl _ (zZ _ _ rfl) (zY B ?_); clear B; intro b_r7 wn zb zd r7 za zf zk B; (try have zh := d3.lt); (try replace d3 := d3.below (za.mono zb)); (try have zh := r7.lt); (try replace r7 := r7.below (za.mono zb)); simp only [zo])
   (refine zq (t := 38) rfl _ _ rfl _ rfl _ rfl r7 (by kernel_rfl) rfl (by simp [jV, Value.oneCell']) (qG B (by omega) ?_); clear r7 B; intro wn r7 ze zf zg B; (try replace d3 := d3.of_eq (ze.block _ d3.lt (by omega))); simp only [zo])
   refine wpList_nil ?_; replace r7 : zK 38 _ b_r7 (jV q) := r7; go_upto_region 2 with fail
   refine wp_region_lit ?_; refine zy 11 ?_
   refine qP ?hs15_11 ?_
   case hs15_11 => kernel_rfl
   simp only [zo]; refine zy 5 ?_
   refine qP ?hs15_17 ?_
   case hs15_17 => kernel_rfl
   simp only [zo]; refine zy 7 ?_
   refine qP ?hs15_25 ?_
   case hs15_25 => kernel_rfl
   simp only [zo]; refine zy 2 ?_; refine wpList_nil ?_; go_upto_region 3 with fail
   refine wp_region_lit ?_; refine zy 1 ?_; refine wpList_nil ?_; go_wp2; go_ret; exact ⟨rfl, B⟩
  ·by_cases h2 : ZR d.x = false
   ·have q0 : decide (d.r < 1) = false := decide_eq_false h0
    have q1 : decide (256 < d.r) = false := decide_eq_false h1; have H2 := Lib.hid (show ZR d.x = false from h2); obtain rfl : n = 0 := by rw [← e]; exact Qr (.inr (.inr (.inl h2))) x y
    clear e h2; go_enter Tryz.func24, Tryz.ntmps24
    go_upto_region 0 with fail
    refine wp_region_lit ?_
    (refine zt (t := 45) rfl _ rfl _ rfl (zY B ?_); clear B; intro b_d3 wn zb zd d3 za zf zk B; (try have zh := d3.lt); (try replace d3 := d3.below (za.mono zb)); (try have zh := r7.lt); (try replace r7 := r7.below (za.mono zb)); simp only [zo])
    refine zy 1 ?_; refine wpList_nil ?_; go_upto_region 1 with fail
    refine wp_region_lit ?_; refine zy 1 ?_
    refine je (enters_of Tryz.func62 (by kernel_rfl) rfl) (c := yW d q _ hx hy hr HQ.out) (h := ?_); rintro e wn ⟨rfl, za⟩; have zf := B.size; have zg := za.size; replace B := B.trans (za.mono B.size)
    (try replace d3 := d3.below za)
    (try replace r7 := r7.below za)
    refine ⟨_, rfl, ?_⟩; simp only [zo]
    (refine zr (t := 38) rfl _ (zZ _ _ rfl) (zY B ?_); clear B; intro b_r7 wn zb zd r7 za zf zk B; (try have zh := d3.lt); (try replace d3 := d3.below (za.mono zb)); (try have zh := r7.lt); (try replace r7 := r7.below (za.mono zb)); simp only [zo])
    (refine zq (t := 38) rfl _ _ rfl _ rfl _ rfl r7 (by kernel_rfl) rfl (by simp [jV, Value.oneCell']) (qG B (by omega) ?_); clear r7 B; intro wn r7 ze zf zg B; (try replace d3 := d3.of_eq (ze.block _ d3.lt (by omega))); simp only [zo])
    refine wpList_nil ?_; replace r7 : zK 38 _ b_r7 (jV q) := r7; go_upto_region 2 with fail
    refine wp_region_lit ?_; refine zy 11 ?_
    refine je (enters_of Tryz.func53 (by kernel_rfl) rfl) (c := y5 d.x false _ H2.out) (h := ?_); rintro e wn ⟨rfl, za⟩; have zf := B.size; have zg := za.size; replace B := B.trans (za.mono B.size)
    (try replace d3 := d3.below za)
    (try replace r7 := r7.below za)
    refine ⟨_, rfl, ?_⟩; simp only [zo]; refine zy 5 ?_
    refine qP ?hs19_17 ?_
    case hs19_17 => kernel_rfl
    simp only [zo]; refine zy 7 ?_
    refine qP ?hs19_25 ?_
    case hs19_25 => kernel_rfl
    simp only [zo]; refine zy 2 ?_; refine wpList_nil ?_; go_upto_region 3 with fail
    refine wp_region_lit ?_; refine zy 1 ?_; refine wpList_nil ?_; go_wp2; go_ret; exact ⟨rfl, B⟩
   ·by_cases h3 : ZR d.y = false
    ·have q0 : decide (d.r < 1) = false := decide_eq_false h0
     have q1 : decide (256 < d.r) = false := decide_eq_false h1; have H2 := Lib.hid (show ZR d.x = true from by simpa using h2); have H3 := Lib.hid (show ZR d.y = false from h3); obtain rfl : n = 0 := by rw [← e]; exact Qr (.inr (.inr (.inr h3))) x y
     clear e h2 h3; go_enter Tryz.func24, Tryz.ntmps24
     go_upto_region 0 with fail
     refine wp_region_lit ?_
     (refine zt (t := 45) rfl _ rfl _ rfl (zY B ?_); clear B; intro b_d3 wn zb zd d3 za zf zk B; (try have zh := d3.lt); (try replace d3 := d3.below (za.mono zb)); (try have zh := r7.lt); (try replace r7 := r7.below (za.mono zb)); simp only [zo])
     refine zy 1 ?_; refine wpList_nil ?_; go_upto_region 1 with fail
     refine wp_region_lit ?_; refine zy 1 ?_
     refine je (enters_of Tryz.func62 (by kernel_rfl) rfl) (c := yW d q _ hx hy hr HQ.out) (h := ?_); rintro e wn ⟨rfl, za⟩; have zf := B.size; have zg := za.size; replace B := B.trans (za.mono B.size)
     (try replace d3 := d3.below za)
     (try replace r7 := r7.below za)
     refine ⟨_, rfl, ?_⟩; simp only [zo]
     (refine zr (t := 38) rfl _ (zZ _ _ rfl) (zY B ?_); clear B; intro b_r7 wn zb zd r7 za zf zk B; (try have zh := d3.lt); (try replace d3 := d3.below (za.mono zb)); (try have zh := r7.lt); (try replace r7 := r7.below (za.mono zb)); simp only [zo])
     (refine zq (t := 38) rfl _ _ rfl _ rfl _ rfl r7 (by kernel_rfl) rfl (by simp [jV, Value.oneCell']) (qG B (by omega) ?_); clear r7 B; intro wn r7 ze zf zg B; (try replace d3 := d3.of_eq (ze.block _ d3.lt (by omega))); simp only [zo])
     refine wpList_nil ?_; replace r7 : zK 38 _ b_r7 (jV q) := r7; go_upto_region 2 with fail
     refine wp_region_lit ?_; refine zy 11 ?_
     refine je (enters_of Tryz.func53 (by kernel_rfl) rfl) (c := y5 d.x true _ H2.out) (h := ?_); rintro e wn ⟨rfl, za⟩; have zf := B.size; have zg := za.size; replace B := B.trans (za.mono B.size)
     (try replace d3 := d3.below za)
     (try replace r7 := r7.below za)
     refine ⟨_, rfl, ?_⟩; simp only [zo]; refine zy 5 ?_
     refine je (enters_of Tryz.func53 (by kernel_rfl) rfl) (c := y5 d.y false _ H3.out) (h := ?_); rintro e wn ⟨rfl, za⟩; have zf := B.size; have zg := za.size; replace B := B.trans (za.mono B.size)
     (try replace d3 := d3.below za)
     (try replace r7 := r7.below za)
     refine ⟨_, rfl, ?_⟩; simp only [zo]; refine zy 7 ?_
     refine qP ?hs23_25 ?_
     case hs23_25 => kernel_rfl
     simp only [zo]; refine zy 2 ?_; refine wpList_nil ?_; go_upto_region 3 with fail
     refine wp_region_lit ?_; refine zy 1 ?_; refine wpList_nil ?_; go_wp2; go_ret; exact ⟨rfl, B⟩
    ·by_cases h4 : qU q x y = false
     ·have q0 : decide (d.r < 1) = false := decide_eq_false h0
      have q1 : decide (256 < d.r) = false := decide_eq_false h1; have H2 := Lib.hid (show ZR d.x = true from by simpa using h2); have H3 := Lib.hid (show ZR d.y = true from by simpa using h3); have H4 := Lib.hid (show qU q x y = false from h4); obtain rfl : n = 0 := by rw [← e]; exact zce (by rw [HQ.out]; exact h4)
      clear e h2 h3 h4; go_enter Tryz.func24, Tryz.ntmps24
      go_upto_region 0 with fail
      refine wp_region_lit ?_
      (refine zt (t := 45) rfl _ rfl _ rfl (zY B ?_); clear B; intro b_d3 wn zb zd d3 za zf zk B; (try have zh := d3.lt); (try replace d3 := d3.below (za.mono zb)); (try have zh := r7.lt); (try replace r7 := r7.below (za.mono zb)); simp only [zo])
      refine zy 1 ?_; refine wpList_nil ?_; go_upto_region 1 with fail
      refine wp_region_lit ?_; refine zy 1 ?_
      refine je (enters_of Tryz.func62 (by kernel_rfl) rfl) (c := yW d q _ hx hy hr HQ.out) (h := ?_); rintro e wn ⟨rfl, za⟩; have zf := B.size; have zg := za.size; replace B := B.trans (za.mono B.size)
      (try replace d3 := d3.below za)
      (try replace r7 := r7.below za)
      refine ⟨_, rfl, ?_⟩; simp only [zo]
      (refine zr (t := 38) rfl _ (zZ _ _ rfl) (zY B ?_); clear B; intro b_r7 wn zb zd r7 za zf zk B; (try have zh := d3.lt); (try replace d3 := d3.below (za.mono zb)); (try have zh := r7.lt); (try replace r7 := r7.below (za.mono zb)); simp only [zo])
      (refine zq (t := 38) rfl _ _ rfl _ rfl _ rfl r7 (by kernel_rfl) rfl (by simp [jV, Value.oneCell']) (qG B (by omega) ?_); clear r7 B; intro wn r7 ze zf zg B; (try replace d3 := d3.of_eq (ze.block _ d3.lt (by omega))); simp only [zo])
      refine wpList_nil ?_; replace r7 : zK 38 _ b_r7 (jV q) := r7; go_upto_region 2 with fail
      refine wp_region_lit ?_; refine zy 11 ?_
      refine je (enters_of Tryz.func53 (by kernel_rfl) rfl) (c := y5 d.x true _ H2.out) (h := ?_); rintro e wn ⟨rfl, za⟩; have zf := B.size; have zg := za.size; replace B := B.trans (za.mono B.size)
      (try replace d3 := d3.below za)
      (try replace r7 := r7.below za)
      refine ⟨_, rfl, ?_⟩; simp only [zo]; refine zy 5 ?_
      refine je (enters_of Tryz.func53 (by kernel_rfl) rfl) (c := y5 d.y true _ H3.out) (h := ?_); rintro e wn ⟨rfl, za⟩; have zf := B.size; have zg := za.size; replace B := B.trans (za.mono B.size)
      (try replace d3 := d3.below za)
      (try replace r7 := r7.below za)
      refine ⟨_, rfl, ?_⟩; simp only [zo]; refine zy 7 ?_
      refine je (enters_of Tryz.func25 (by kernel_rfl) rfl) (c := Qf q x y false _ H4.out) (h := ?_); rintro e wn ⟨rfl, za⟩; have zf := B.size; have zg := za.size; replace B := B.trans (za.mono B.size)
      (try replace d3 := d3.below za)
      (try replace r7 := r7.below za)
      refine ⟨_, rfl, ?_⟩; simp only [zo]; refine zy 2 ?_; refine wpList_nil ?_; go_upto_region 3 with fail
      refine wp_region_lit ?_; refine zy 1 ?_; refine wpList_nil ?_; go_wp2; go_ret; exact ⟨rfl, B⟩
     ·have q0 : decide (d.r < 1) = false := decide_eq_false h0
      have q1 : decide (256 < d.r) = false := decide_eq_false h1; have H2 := Lib.hid (show ZR d.x = true from by simpa using h2); have H3 := Lib.hid (show ZR d.y = true from by simpa using h3); have H4 := Lib.hid (show qU q x y = true from by simpa using h4); have HOK := zcU h0 h1 H2.out H3.out; have E := Lib.hid (zef HOK e); obtain ⟨⟨b1, b2⟩, b3, b4⟩ := zdA (by rw [HQ.out]; exact H4.out) (show 1 ≤ d.r ∧ d.r ≤ 256 by omega)
      obtain ⟨b5, b6⟩ := zcz H2.out; obtain ⟨b7, b8⟩ := zcz H3.out; have mr := j5 (a := d.r) (b := d.r) (m := 256) (k := 256) (by omega) (by omega) (by omega) (by omega); have gx : -100000 ≤ x ∧ x ≤ 100000 := by omega
      have gy : -100000 ≤ y ∧ y ≤ 100000 := by omega
      clear e h2 h3 h4 HOK hx hy hr; go_enter Tryz.func24, Tryz.ntmps24
      go_upto_region 0 with fail
      refine wp_region_lit ?_
      (refine zt (t := 45) rfl _ rfl _ rfl (zY B ?_); clear B; intro b_d3 wn zb zd d3 za zf zk B; (try have zh := d3.lt); (try replace d3 := d3.below (za.mono zb)); (try have zh := r7.lt); (try replace r7 := r7.below (za.mono zb)); simp only [zo])
      refine zy 1 ?_; refine wpList_nil ?_; go_upto_region 1 with fail
      refine wp_region_lit ?_; refine zy 1 ?_
      refine je (enters_of Tryz.func62 (by kernel_rfl) rfl) (c := yW d q _ (by omega) (by omega) (by omega) HQ.out) (h := ?_); rintro e wn ⟨rfl, za⟩; have zf := B.size; have zg := za.size; replace B := B.trans (za.mono B.size)
      (try replace d3 := d3.below za)
      (try replace r7 := r7.below za)
      refine ⟨_, rfl, ?_⟩; simp only [zo]
      (refine zr (t := 38) rfl _ (zZ _ _ rfl) (zY B ?_); clear B; intro b_r7 wn zb zd r7 za zf zk B; (try have zh := d3.lt); (try replace d3 := d3.below (za.mono zb)); (try have zh := r7.lt); (try replace r7 := r7.below (za.mono zb)); simp only [zo])
      (refine zq (t := 38) rfl _ _ rfl _ rfl _ rfl r7 (by kernel_rfl) rfl (by simp [jV, Value.oneCell']) (qG B (by omega) ?_); clear r7 B; intro wn r7 ze zf zg B; (try replace d3 := d3.of_eq (ze.block _ d3.lt (by omega))); simp only [zo])
      refine wpList_nil ?_; replace r7 : zK 38 _ b_r7 (jV q) := r7; go_upto_region 2 with fail
      refine wp_region_lit ?_; refine zy 11 ?_
      refine je (enters_of Tryz.func53 (by kernel_rfl) rfl) (c := y5 d.x true _ H2.out) (h := ?_); rintro e wn ⟨rfl, za⟩; have zf := B.size; have zg := za.size; replace B := B.trans (za.mono B.size)
      (try replace d3 := d3.below za)
      (try replace r7 := r7.below za)
      refine ⟨_, rfl, ?_⟩; simp only [zo]; refine zy 5 ?_
      refine je (enters_of Tryz.func53 (by kernel_rfl) rfl) (c := y5 d.y true _ H3.out) (h := ?_); rintro e wn ⟨rfl, za⟩; have zf := B.size; have zg := za.size; replace B := B.trans (za.mono B.size)
      (try replace d3 := d3.below za)
      (try replace r7 := r7.below za)
      refine ⟨_, rfl, ?_⟩; simp only [zo]; refine zy 7 ?_
      refine je (enters_of Tryz.func25 (by kernel_rfl) rfl) (c := Qf q x y true _ H4.out) (h := ?_); rintro e wn ⟨rfl, za⟩; have zf := B.size; have zg := za.size; replace B := B.trans (za.mono B.size)
      (try replace d3 := d3.below za)
      (try replace r7 := r7.below za)
      refine ⟨_, rfl, ?_⟩; simp only [zo]; refine zy 2 ?_; refine wpList_nil ?_; clear r7; go_wp2; go_loopw [8, 9, 10, 11, 12, 43] (fun nv _ _ _ _ iv wr => ∃ (i : Nat) (n0 : Int), i ≤ 4 ∧ iv = .int .i64 (i : Int) ∧ nv = .int .i64 n0 ∧ (0 ≤ n0 ∧ n0 ≤ 4 * (i : Int)) ∧ Hid (uG d x y σP (4 * i) = n0) ∧ Below w.heap.size w wr ∧ zK 45 wr b_d3 (vZ.enc d)) (fun _ _ _ _ _ iv _ => (4 - intOf iv).toNat)
      case atStart => exact ⟨0, 0, by omega, rfl, rfl, by omega, Lib.hid rfl, B, d3⟩
      case round =>
       clear B d3; obtain ⟨i, n0, hi, rfl, rfl, hn0, HS, B, d3⟩ := hrel; by_cases hi1 : i < 4
       ·have q5 : decide ((i : Int) < 4) = true := decide_eq_true (by omega)
        have q6 : decide (i < 4) = true := decide_eq_true hi1; go_upto_region 6 with fail
        refine wp_region_lit ?_; refine zy 1 ?_; refine wpList_nil ?_; go_upto_region 7 with fail
        refine wp_region_lit ?_; refine zy 2 ?_; refine wpList_nil ?_; go_upto_region 8 with fail
        refine wp_region_lit ?_; refine zy 1 ?_; refine wpList_nil ?_; go_wp2; go_loopw [8, 10, 11, 12, 46] (fun nv _ _ _ jv wr => ∃ (j : Nat) (n1 : Int), j ≤ 4 ∧ jv = .int .i64 (j : Int) ∧ nv = .int .i64 n1 ∧ (0 ≤ n1 ∧ n1 ≤ 4 * (i : Int) + (j : Int)) ∧ Hid (uG d x y σP (4 * i + j) = n1) ∧ Below w.heap.size w wr ∧ zK 45 wr b_d3 (vZ.enc d)) (fun _ _ _ _ jv _ => (4 - intOf jv).toNat)
        case atStart => exact ⟨0, n0, by omega, rfl, rfl, by omega, HS, B, d3⟩
        case round =>
         clear B d3 hn0; obtain ⟨j, n1, hj, rfl, rfl, hn1, HS1, B, d3⟩ := hrel; by_cases hj1 : j < 4
         ·have q7 : decide ((j : Int) < 4) = true := decide_eq_true (by omega)
          have q8 : decide (j < 4) = true := decide_eq_true hj1; obtain ⟨m1, m2⟩ := Xh (x := (16 * x + 4 * (i : Int) + 2 - d.x)) (m := 400) (by omega) (by omega); obtain ⟨m3, m4⟩ := Xh (x := (16 * y + 4 * (j : Int) + 2 - d.y)) (m := 400) (by omega) (by omega); have hσ : σP (4 * i + j) = (i, j) := by unfold σP; rw [show (4 * i + j) / 4 = i by omega, show (4 * i + j) % 4 = j by omega]
          have hhit : Z9 d x y i j = decide ((16 * x + 4 * (i : Int) + 2 - d.x) * (16 * x + 4 * (i : Int) + 2 - d.x) + (16 * y + 4 * (j : Int) + 2 - d.y) * (16 * y + 4 * (j : Int) + 2 - d.y) ≤ d.r * d.r) := by unfold Z9 dx4; rw [show 16 * x + (4 * (i : Int) + 2) - d.x = (16 * x + 4 * (i : Int) + 2 - d.x) by omega, show 16 * y + (4 * (j : Int) + 2) - d.y = (16 * y + 4 * (j : Int) + 2 - d.y) by omega]
          cases hh : Z9 d x y i j with
          | true =>
           have q9 : decide ((16 * x + 4 * (i : Int) + 2 - d.x) * (16 * x + 4 * (i : Int) + 2 - d.x) + (16 * y + 4 * (j : Int) + 2 - d.y) * (16 * y + 4 * (j : Int) + 2 - d.y) ≤ d.r * d.r) = true := hhit.symm.trans hh; have HN := Lib.hid (KW HS1.out hσ hh); clear hhit hh hσ; go_upto_region 9 with fail
           refine wp_region_lit ?_; refine zy 1 ?_; refine wpList_nil ?_; go_upto_region 10 with fail
           refine wp_region_lit ?_; refine zy 2 ?_; refine wpList_nil ?_; go_upto_region 11 with fail
           refine wp_region_lit ?_; refine zy 10 ?_
           refine wpList_nil ?_; go_upto_region 12 with fail
           refine wp_region_lit ?_; refine zy 10 ?_
           refine wpList_nil ?_; go_upto_region 13 with fail
           refine wp_region_lit ?_; refine zy 13 ?_
           refine wpList_nil ?_; go_upto_region 14 with fail
           refine wp_region_lit ?_; refine zy 3 ?_; refine wpList_nil ?_; go_upto_region 15 with fail
           refine wp_region_lit ?_; refine zy 2 ?_; refine wpList_nil ?_; go_wp2; go_roundw
           case rel => exact ⟨j + 1, _, by omega, by go_num, rfl, by omega, HN, B, d3⟩
           case measure => simp [intOf]; omega
          | false =>
           have q9 : decide ((16 * x + 4 * (i : Int) + 2 - d.x) * (16 * x + 4 * (i : Int) + 2 - d.x) + (16 * y + 4 * (j : Int) + 2 - d.y) * (16 * y + 4 * (j : Int) + 2 - d.y) ≤ d.r * d.r) = false := hhit.symm.trans hh; have HN := Lib.hid (KW HS1.out hσ hh); clear hhit hh hσ; go_upto_region 9 with fail
           refine wp_region_lit ?_; refine zy 1 ?_; refine wpList_nil ?_; go_upto_region 10 with fail
           refine wp_region_lit ?_; refine zy 2 ?_; refine wpList_nil ?_; go_upto_region 11 with fail
           refine wp_region_lit ?_; refine zy 10 ?_
           refine wpList_nil ?_; go_upto_region 12 with fail
           refine wp_region_lit ?_; refine zy 10 ?_
           refine wpList_nil ?_; go_upto_region 13 with fail
           refine wp_region_lit ?_; refine zy 13 ?_
           refine wpList_nil ?_; go_upto_region 15 with fail
           refine wp_region_lit ?_; refine zy 2 ?_; refine wpList_nil ?_; go_wp2; go_roundw
           case rel => exact ⟨j + 1, _, by omega, by go_num, rfl, by omega, HN, B, d3⟩
           case measure => simp [intOf]; omega
         ·have q7 : decide ((j : Int) < 4) = false := decide_eq_false (by omega)
          have q8 : decide (j < 4) = false := decide_eq_false hj1; have HN := Lib.hid (show uG d x y σP (4 * (i + 1)) = n1 from by rw [show 4 * (i + 1) = 4 * i + j by omega]; exact HS1.out)
          go_upto_region 9 with fail
          refine wp_region_lit ?_; refine zy 1 ?_; refine wpList_nil ?_; go_upto_region 16 with fail
          refine wp_region_lit ?_; refine zy 2 ?_; refine wpList_nil ?_; go_wp2; go_roundw
          case rel => exact ⟨i + 1, n1, by omega, by go_num, rfl, by omega, HN, B, d3⟩
          case measure => simp [intOf]; omega
       ·have q5 : decide ((i : Int) < 4) = false := decide_eq_false (by omega)
        have q6 : decide (i < 4) = false := decide_eq_false hi1; have HN := Lib.hid (show qm (255 * n0) 16 = n from by rw [← E.out]; congr 2; rw [← HS.out, show 4 * i = 16 by omega]; rfl)
        clear d3; go_upto_region 6 with fail
        refine wp_region_lit ?_; refine zy 1 ?_; refine wpList_nil ?_; go_upto_region 17 with fail
        refine wp_region_lit ?_; refine zy 2 ?_; refine je (enters_of Tryz.func68 (by kernel_rfl) rfl) (c := vf (255 * n0) 16 n _ (by omega) (by omega) (by omega) (by omega) HN.out) (h := ?_); rintro e wn ⟨rfl, za⟩; have zf := B.size; have zg := za.size; replace B := B.trans (za.mono B.size); refine ⟨_, rfl, ?_⟩; simp only [zo]; refine zy 1 ?_; refine wpList_nil ?_; go_wp2; go_ret; exact ⟨rfl, B⟩
/- Contracts of the reference's Valid, Cover, Same, SameDabs. -/
/-! ### Valid -/
/-! ### Cover -/
end Go.Proofs.YtepelndbbhdofaaGreatDoor
/- Contracts of Bytes of package stroke and of its reference. -/
namespace Go.Proofs.YtepelndbbhdofaaGreatDoor
open Go.RowKit Sha Pl
set_option linter.unusedVariables false
set_option linter.unusedSimpArgs false
set_option maxRecDepth 20000
theorem zea (B0 b : Nat) (l : List UInt8) (z : Int) (w : World) (h : yl B0 b l w) (hz : 0 ≤ z ∧ z < 16777216) (hlen : l.length ≤ 100000) (hBw : B0 ≤ w.heap.size) : Calls Tryz.prog 82 #[.int .i64 z, .int .i64 1, .pointer (some ⟨b, 0, none⟩)] w fun e w' => (∃ v, e = .returned v) ∧ UB B0 b (l ++ jr z.toNat 1) w' ∧ Below B0 w w' := by
 obtain ⟨n, rfl⟩ : ∃ n : Nat, z = n := ⟨z.toNat, by omega⟩
 exact zd6 B0 b l n w h (by omega) hlen hBw
theorem Vu (B0 b : Nat) (l : List UInt8) (z : Int) (w : World) (h : UB B0 b l w) (hz : 0 ≤ z ∧ z < 16777216) (hlen : l.length ≤ 100000) (hBw : B0 ≤ w.heap.size) : Calls Tryz.prog 82 #[.int .i64 z, .int .i64 1, .pointer (some ⟨b, 0, none⟩)] w fun e w' => (∃ v, e = .returned v) ∧ UB B0 b (l ++ jr z.toNat 1) w' ∧ Below B0 w w' ∧ KB b w w' := by
 obtain ⟨n, rfl⟩ : ∃ n : Nat, z = n := ⟨z.toNat, by omega⟩
 exact zfv B0 b l n w h (by omega) hlen hBw
theorem zb8 (B0 b : Nat) (l : List UInt8) (z : Int) (w : World) (h : UB B0 b l w) (hz : 0 ≤ z ∧ z < 16777216) (hlen : l.length ≤ 100000) (hBw : B0 ≤ w.heap.size) : Calls Tryz.prog 82 #[.int .i64 z, .int .i64 2, .pointer (some ⟨b, 0, none⟩)] w fun e w' => (∃ v, e = .returned v) ∧ UB B0 b (l ++ jr z.toNat 2) w' ∧ Below B0 w w' ∧ KB b w w' := by
 obtain ⟨n, rfl⟩ : ∃ n : Nat, z = n := ⟨z.toNat, by omega⟩
 exact zfw B0 b l n w h (by omega) hlen hBw
theorem XD (B0 b : Nat) (l : List UInt8) (z : Int) (w : World) (h : UB B0 b l w) (hz : 0 ≤ z ∧ z < 16777216) (hlen : l.length ≤ 100000) (hBw : B0 ≤ w.heap.size) : Calls Tryz.prog 82 #[.int .i64 z, .int .i64 3, .pointer (some ⟨b, 0, none⟩)] w fun e w' => (∃ v, e = .returned v) ∧ UB B0 b (l ++ jr z.toNat 3) w' ∧ Below B0 w w' ∧ KB b w w' := by
 obtain ⟨n, rfl⟩ : ∃ n : Nat, z = n := ⟨z.toNat, by omega⟩
 exact zfx B0 b l n w h (by omega) hlen hBw
theorem za4 (l : List Sp) {k : Nat} {p : Sp} (h : l[k]? = some p) : xC (l.take (k + 1)) = xC (l.take k) ++ ptB p := by
 rw [List.take_add_one, h]
 exact za3 _ _
set_option maxHeartbeats 8000000 in
theorem Qy (v : Value) (s : jd) (L : List UInt8) (w : World) (rs : xp j3 v s.pts w) (hn : s.pts.length ≤ 17592186044416) (hcol : s.col.ok) (e : ys s = L) : Calls Tryz.prog 33 #[.agg (jE v s)] w fun e w' => e = .returned (.string (yw L)) ∧ Below w.heap.size w w' := by
 have B := Below.refl w.heap.size w
 obtain ⟨a, c, rfl, hc⟩ := rs.len
 cases hv : j2 s with
 | false =>
  have hL : L = [] := by rw [← e]; unfold ys; rw [hv]; rfl
  subst hL; have HV := Lib.hid hv; clear hv e; go_enter Tryz.func33, Tryz.ntmps33
  go_upto_region 0 with fail
  refine wp_region_lit ?_
  (refine zt (t := 30) rfl _ rfl _ rfl (zY B ?_); clear B; intro b_r1 wn zb zd r1 za zf zk B; (try have zh := rs.lt); (try replace rs := rs.below (za.mono zb)); simp only [zo])
  refine zy 1 ?_; refine wpList_nil ?_; go_upto_region 1 with fail
  refine wp_region_lit ?_; refine zy 1 ?_
  refine je (enters_of Tryz.func16 (by kernel_rfl) rfl) (c := xM _ s false _ rs hn HV.out) (h := ?_); rintro e wn ⟨rfl, za⟩; have zf := B.size; have zg := za.size; replace B := B.trans (za.mono B.size)
  (try replace r1 := r1.below za)
  (try replace rs := rs.below za)
  refine ⟨_, rfl, ?_⟩; simp only [zo]; refine zy 1 ?_; refine wpList_nil ?_; go_upto_region 2 with fail
  refine wp_region_lit ?_; refine zy 1 ?_; refine wpList_nil ?_; go_wp2; go_ret; exact ⟨rfl, B⟩
 | true =>
  have hL : ji s = L := by rw [← e]; unfold ys; rw [hv]; rfl
  have HL := Lib.hid hL; have HVS := Lib.hid ((xk s).1 hv); have HV := Lib.hid hv; have hl1 := HVS.out.l1; have hl2 := HVS.out.l2; have v1 := HVS.out.r1; have v2 := HVS.out.r2; have v3 := HVS.out.s1; have v4 := HVS.out.s2; have v5 := HVS.out.p1; have v6 := HVS.out.p2; obtain ⟨g, o, rfl, pc⟩ := rs.at (by omega); have hg0 := pc.lt; have HCOL := Lib.hid hcol; clear hv e hL hcol; go_enter Tryz.func33, Tryz.ntmps33
  go_upto_region 0 with fail
  refine wp_region_lit ?_
  (refine zt (t := 30) rfl _ rfl _ rfl (zY B ?_); clear B; intro b_r1 wn zb zd r1 za zf zk B; (try have zh := r1.lt); (try replace r1 := r1.below (za.mono zb)); (try have zh := pc.lt); (try replace pc := pc.below (za.mono zb)); (try have zh := rs.lt); (try replace rs := rs.below (za.mono zb)); simp only [zo])
  refine zy 1 ?_; refine wpList_nil ?_; have k1 : w.heap.size ≤ b_r1 := by omega
  go_upto_region 1 with fail
  refine wp_region_lit ?_; refine zy 1 ?_
  refine je (enters_of Tryz.func16 (by kernel_rfl) rfl) (c := xM _ s true _ rs hn HV.out) (h := ?_); rintro e wn ⟨rfl, za⟩; have zf := B.size; have zg := za.size; replace B := B.trans (za.mono B.size)
  (try replace r1 := r1.below za)
  (try replace pc := pc.below za)
  (try replace rs := rs.below za)
  refine ⟨_, rfl, ?_⟩; simp only [zo]; refine zy 1 ?_; refine wpList_nil ?_; clear rs; have hr1 := r1.lt; go_upto_region 3 with fail
  refine wp_region_lit ?_
  (refine JO rfl rfl (zY B ?_); clear B; intro b_bd wn zb zd bd za zf zk B; (try have zh := r1.lt); (try replace r1 := r1.below (za.mono zb)); (try have zh := pc.lt); (try replace pc := pc.below (za.mono zb)); simp only [zo])
  refine wpList_nil ?_; have k2 : b_r1 < b_bd := by omega
  have k3 : g < b_bd := by omega
  have hbl := bd.lt; go_upto_region 4 with fail
  refine wp_region_lit ?_
  (refine qv rfl (.func (.func 82) #[] #[.pointer (some ⟨b_bd, 0, none⟩)]) (by first | rfl | simp [go_sem, Act.eval]) ?_; simp only [zo])
  refine zy 1 ?_; refine wpList_nil ?_; go_upto_region 5 with fail
  refine wp_region_lit ?_; refine zy 3 ?_
  refine zw (by first | rfl | simp [Region.wanted, yielded]) rfl Tryz.underlying26 rfl ?_; simp only [zo]; refine qR (by first | rfl | simp [Region.wanted, yielded]) rfl (by simp only [Act.eval, qI]; rfl) (enters_of Tryz.func82 (by kernel_rfl) rfl) (by simp only [Act.eval, qI]; rfl) ?_
  refine (zea b_bd b_bd ([]) ((s.pts.length : Int)) _ bd (by omega) (by simp) (by omega)).mono ?_; rintro e wn ⟨⟨_, rfl⟩, hu, za⟩; have zf := B.size; have zg := za.size; replace B := B.trans (za.mono (by omega)); replace r1 := r1.of_eq (za.block _ (by omega)); replace pc := pc.of_eq (za.block _ (by omega)); clear bd; have bd := hu; clear hu; refine ⟨_, rfl, ?_⟩; simp only [zo]; refine wpList_nil ?_; rw [List.nil_append, Int.toNat_natCast] at bd; go_upto_region 6 with fail
  refine wp_region_lit ?_; refine zy 2 ?_
  refine zw (by first | rfl | simp [Region.wanted, yielded]) rfl Tryz.underlying26 rfl ?_; simp only [zo]; refine zy 1 ?_; refine wpList_nil ?_; clear hbl; go_wp2; go_loopw [6, 20] (fun _ iv wr => ∃ k : Nat, k ≤ s.pts.length ∧ iv = .int .i64 (k : Int) ∧ Below w.heap.size w wr ∧ zK 30 wr b_r1 (jE (.slice (some ⟨g, o, none⟩) s.pts.length c) s) ∧ zW j3 g o s.pts wr ∧ UB b_bd b_bd ((jr s.pts.length 1) ++ xC (s.pts.take k)) wr) (fun _ iv _ => (s.pts.length - intOf iv).toNat)
  case atStart => exact ⟨0, by omega, rfl, B, r1, pc, by rw [List.take_zero]; exact bd⟩
  case round =>
   clear B r1 pc bd; obtain ⟨k, hk, rfl, B, r1, pc, bd⟩ := hrel; have hbl := bd.lt; by_cases hkl : k < s.pts.length
   ·have q1 : decide ((k : Int) < (s.pts.length : Int)) = true := decide_eq_true (by omega)
    have q2 : decide (k < s.pts.length) = true := decide_eq_true hkl; have hp := ju hkl; have OKP := HVS.out.pt hkl; have hst := za4 s.pts hp
    generalize hx1 : jJ s.pts k = x1 at *
    clear hx1; have HST := Lib.hid hst; clear hst; obtain ⟨o1, o2, o3, o4, o5, o6⟩ := OKP; obtain ⟨l0, hl0⟩ : ∃ l, (jr s.pts.length 1) ++ xC (s.pts.take k) = l := ⟨_, rfl⟩; have hl0n : l0.length ≤ 449 := by rw [← hl0, List.length_append, zH, kA, List.length_take]; omega
    rw [hl0] at bd; have HL0 := Lib.hid hl0; clear hl0; go_upto_region 7 with fail
    refine wp_region_lit ?_; refine zy 1 ?_; refine wpList_nil ?_; have BW := B; have hws := B.size; have HBD := Lib.hid bd; obtain ⟨wR, hwR⟩ : ∃ z, z = wr := ⟨_, rfl⟩; subst hwR; have B := Below.refl wR.heap.size wR; have hr1l := r1.lt; have hgl := pc.lt; go_upto_region 8 with fail
    refine wp_region_lit ?_; refine j4 2 ?_; repeat (first | go_big_quiet_skip | (go_big_quiet_want; first | ((first | refine zn (t := 43) rfl _ _ _ rfl (fun w hw => (jX pc w hw).load Tryz.isAgg43 hp) (by first | rfl | omega) ?_ | refine qB ?_ | refine qC ?_); simp only [zo]; go_big_quiet_on) | (go_big_quiet_op; go_big_quiet_on)))
    refine wpQuiet_nil ?_
    (refine zr (t := 43) rfl _ (km _ _ rfl) (zY B ?_); clear B; intro b_t6 wn zb zd t6 za zf zk B; (try have zh := r1.lt); (try replace r1 := r1.below (za.mono zb)); (try have zh := pc.lt); (try replace pc := pc.below (za.mono zb)); simp only [zo])
    (refine zq (t := 43) rfl _ _ rfl _ rfl _ rfl t6 (by kernel_rfl) rfl (by simp [j3, Value.oneCell']) (qG B (by omega) ?_); clear t6 B; intro wn t6 ze zf zg B; (try replace r1 := r1.of_eq (ze.block _ r1.lt (by omega))); (try replace pc := pc.of_eq (ze.block _ pc.lt (by omega))); simp only [zo])
    refine wpList_nil ?_; replace t6 : zK 43 _ b_t6 (j3.enc x1) := t6; clear bd; have bd := HBD.out.below B; have k5 : b_bd < b_t6 := by omega
    have B0 := BW.trans (B.mono hws); clear B; have B := B0; clear B0 BW; go_upto_region 9 with fail
    refine wp_region_lit ?_; refine zy 4 ?_
    refine qR (by first | rfl | simp [Region.wanted, yielded]) rfl (by simp only [Act.eval, qI]; rfl) (enters_of Tryz.func82 (by kernel_rfl) rfl) (by simp only [Act.eval, qI]; rfl) ?_
    refine (XD b_bd b_bd (l0) (x1.x + 1048576) _ bd (by omega) (by omega) (by omega)).mono ?_; rintro e wn ⟨⟨_, rfl⟩, hu, za, hkm⟩; have zf := B.size; have zg := za.size; replace B := B.trans (za.mono (by omega)); replace r1 := r1.of_eq (za.block _ (by omega)); replace pc := pc.of_eq (za.block _ (by omega)); replace t6 := hkm _ _ _ t6 (by omega) (by decide); clear bd; have bd := hu; clear hu; refine ⟨_, rfl, ?_⟩; simp only [zo]; refine wpList_nil ?_; go_upto_region 10 with fail
    refine wp_region_lit ?_; refine zy 4 ?_
    refine qR (by first | rfl | simp [Region.wanted, yielded]) rfl (by simp only [Act.eval, qI]; rfl) (enters_of Tryz.func82 (by kernel_rfl) rfl) (by simp only [Act.eval, qI]; rfl) ?_
    refine (XD b_bd b_bd (l0 ++ jr (x1.x + 1048576).toNat 3) (x1.y + 1048576) _ bd (by omega) (by simp only [List.length_append, zH]; omega) (by omega)).mono ?_
    rintro e wn ⟨⟨_, rfl⟩, hu, za, hkm⟩; have zf := B.size; have zg := za.size; replace B := B.trans (za.mono (by omega)); replace r1 := r1.of_eq (za.block _ (by omega)); replace pc := pc.of_eq (za.block _ (by omega)); replace t6 := hkm _ _ _ t6 (by omega) (by decide); clear bd; have bd := hu; clear hu; refine ⟨_, rfl, ?_⟩; simp only [zo]; refine wpList_nil ?_; go_upto_region 11 with fail
    refine wp_region_lit ?_; refine zy 3 ?_
    refine qR (by first | rfl | simp [Region.wanted, yielded]) rfl (by simp only [Act.eval, qI]; rfl) (enters_of Tryz.func82 (by kernel_rfl) rfl) (by simp only [Act.eval, qI]; rfl) ?_
    refine (Vu b_bd b_bd (l0 ++ jr (x1.x + 1048576).toNat 3 ++ jr (x1.y + 1048576).toNat 3) (x1.p) _ bd (by omega) (by simp only [List.length_append, zH]; omega) (by omega)).mono ?_
    rintro e wn ⟨⟨_, rfl⟩, hu, za, hkm⟩; have zf := B.size; have zg := za.size; replace B := B.trans (za.mono (by omega)); replace r1 := r1.of_eq (za.block _ (by omega)); replace pc := pc.of_eq (za.block _ (by omega)); replace t6 := hkm _ _ _ t6 (by omega) (by decide); clear bd; have bd := hu; clear hu; refine ⟨_, rfl, ?_⟩; simp only [zo]; refine wpList_nil ?_; have hfin : l0 ++ jr (x1.x + 1048576).toNat 3 ++ jr (x1.y + 1048576).toNat 3 ++ jr x1.p.toNat 1 = (jr s.pts.length 1) ++ xC (s.pts.take (k + 1)) := by
     rw [HST.out, ← HL0.out]; unfold ptB; simp only [List.append_assoc]
    rw [hfin] at bd; clear hfin; go_upto_region 12 with fail
    refine wp_region_lit ?_; refine zy 2 ?_; refine wpList_nil ?_; go_wp2; go_roundw
    case rel => exact ⟨k + 1, by omega, by go_num, B, r1, pc, bd⟩
    case measure => simp [intOf]; omega
   ·have q1 : decide ((k : Int) < (s.pts.length : Int)) = false := decide_eq_false (by omega)
    have q2 : decide (k < s.pts.length) = false := decide_eq_false hkl; obtain ⟨c1, c2, c3, c4⟩ := HCOL.out; obtain ⟨l0, hl0⟩ : ∃ l, (jr s.pts.length 1) ++ xC (s.pts.take k) = l := ⟨_, rfl⟩; have hl0n : l0.length ≤ 449 := by rw [← hl0, List.length_append, zH, kA, List.length_take]; omega
    have hl0f : l0 = (jr s.pts.length 1) ++ xC s.pts := by rw [← hl0, List.take_of_length_le (by omega)]
    rw [hl0] at bd; have HL0 := Lib.hid hl0f; clear hl0 hl0f; go_upto_region 7 with fail
    refine wp_region_lit ?_; refine zy 1 ?_; refine wpList_nil ?_; go_upto_region 13 with fail
    refine wp_region_lit ?_; refine zy 3 ?_
    refine qR (by first | rfl | simp [Region.wanted, yielded]) rfl (by simp only [Act.eval, qI]; rfl) (enters_of Tryz.func82 (by kernel_rfl) rfl) (by simp only [Act.eval, qI]; rfl) ?_
    refine (zb8 b_bd b_bd (l0) (s.rad) _ bd (by omega) (by omega) (by omega)).mono ?_; rintro e wn ⟨⟨_, rfl⟩, hu, za, hkm⟩; have zf := B.size; have zg := za.size; replace B := B.trans (za.mono (by omega)); replace r1 := r1.of_eq (za.block _ (by omega)); replace pc := pc.of_eq (za.block _ (by omega)); clear bd; have bd := hu; clear hu; refine ⟨_, rfl, ?_⟩; simp only [zo]; refine wpList_nil ?_; go_upto_region 14 with fail
    refine wp_region_lit ?_; refine zy 3 ?_
    refine qR (by first | rfl | simp [Region.wanted, yielded]) rfl (by simp only [Act.eval, qI]; rfl) (enters_of Tryz.func82 (by kernel_rfl) rfl) (by simp only [Act.eval, qI]; rfl) ?_
    refine (zb8 b_bd b_bd (l0 ++ jr s.rad.toNat 2) (s.spa) _ bd (by omega) (by simp only [List.length_append, zH]; omega) (by omega)).mono ?_
    rintro e wn ⟨⟨_, rfl⟩, hu, za, hkm⟩; have zf := B.size; have zg := za.size; replace B := B.trans (za.mono (by omega)); replace r1 := r1.of_eq (za.block _ (by omega)); replace pc := pc.of_eq (za.block _ (by omega)); clear bd; have bd := hu; clear hu; refine ⟨_, rfl, ?_⟩; simp only [zo]; refine wpList_nil ?_; go_upto_region 15 with fail
    refine wp_region_lit ?_; refine zy 12 ?_
    (refine Ve rfl _ _ _ _ rfl s.col.r s.col.g s.col.b s.col.a c1 c2 c3 c4 rfl rfl rfl rfl (zY B ?_); clear B; intro b_b4 wn zb zd b4 za zf zk B; (try have zh := r1.lt); (try replace r1 := r1.below (za.mono zb)); (try have zh := pc.lt); (try replace pc := pc.below (za.mono zb)); (try have zh := bd.lt); (try replace bd := bd.below (za.mono zb)); simp only [zo])
    (refine yF (s := 75) (d := 9) rfl _ rfl rfl (yA b4 (wg s.col) (0) _ (by simp [wg]) (fun i hi => by (have hi : i < 4 := hi); unfold wg; rw [Nat.zero_add, List.getD_eq_getElem?_getD, List.getElem?_eq_getElem hi]; rfl)) ?_; simp only [zo])
    refine je (enters_of Tryz.func83 (by kernel_rfl) rfl) (c := zdY b_bd b_bd (l0 ++ jr s.rad.toNat 2 ++ jr s.spa.toNat 2) (yw (wg s.col)) _ bd (by rw [jD]; simp only [List.length_append, zH, wg, List.length_cons, List.length_nil]; omega) (by have := bd.lt; omega)) (h := ?_)
    rintro e wn ⟨⟨_, rfl⟩, hu, za, hkm⟩; have zf := B.size; have zg := za.size; replace B := B.trans (za.mono (by omega)); replace r1 := r1.of_eq (za.block _ (by omega)); replace pc := pc.of_eq (za.block _ (by omega)); clear bd; have bd := hu; clear hu; refine ⟨_, rfl, ?_⟩; simp only [zo]; refine wpList_nil ?_; rw [Zv] at bd; obtain ⟨l1, hl1'⟩ : ∃ l, l0 ++ jr s.rad.toNat 2 ++ jr s.spa.toNat 2 ++ wg s.col = l := ⟨_, rfl⟩; have hl1n : l1.length ≤ 457 := by rw [← hl1']; simp only [List.length_append, zH, wg, List.length_cons, List.length_nil]; omega
    rw [hl1'] at bd; have HL1 := Lib.hid hl1'; clear hl1' b4; go_upto_region 16 with fail
    refine wp_region_lit ?_; refine zy 1 ?_; refine wpList_nil ?_; go_upto_region 17 with fail
    refine wp_region_lit ?_; refine zy 2 ?_
    refine wpList_nil ?_; cases hera : s.era with
    | true =>
     have hen : jr (Int.toNat 1) 1 = jr (vT s) 1 := by unfold vT; rw [hera]; rfl
     have HEN := Lib.hid hen; clear hera hen; go_upto_region 18 with fail
     refine wp_region_lit ?_; refine zy 1 ?_; refine wpList_nil ?_; go_upto_region 19 with fail
     refine wp_region_lit ?_; refine zy 2 ?_; refine qR (by first | rfl | simp [Region.wanted, yielded]) rfl (by simp only [Act.eval, qI]; rfl) (enters_of Tryz.func82 (by kernel_rfl) rfl) (by simp only [Act.eval, qI]; rfl) ?_
     refine (Vu b_bd b_bd (l1) (1) _ bd (by omega) (by omega) (by omega)).mono ?_; rintro e wn ⟨⟨_, rfl⟩, hu, za, hkm⟩; have zf := B.size; have zg := za.size; replace B := B.trans (za.mono (by omega)); replace r1 := r1.of_eq (za.block _ (by omega)); replace pc := pc.of_eq (za.block _ (by omega)); clear bd; have bd := hu; clear hu; refine ⟨_, rfl, ?_⟩; simp only [zo]; refine wpList_nil ?_; rw [HEN.out] at bd; go_upto_region 20 with fail
     refine wp_region_lit ?_; refine zy 3 ?_
     refine qR (by first | rfl | simp [Region.wanted, yielded]) rfl (by simp only [Act.eval, qI]; rfl) (enters_of Tryz.func82 (by kernel_rfl) rfl) (by simp only [Act.eval, qI]; rfl) ?_
     refine (XD b_bd b_bd (l1 ++ jr (vT s) 1) (s.pha) _ bd (by omega) (by simp only [List.length_append, zH]; omega) (by omega)).mono ?_
     rintro e wn ⟨⟨_, rfl⟩, hu, za, hkm⟩; have zf := B.size; have zg := za.size; replace B := B.trans (za.mono (by omega)); replace r1 := r1.of_eq (za.block _ (by omega)); replace pc := pc.of_eq (za.block _ (by omega)); clear bd; have bd := hu; clear hu; refine ⟨_, rfl, ?_⟩; simp only [zo]; refine wpList_nil ?_; have hfin : l1 ++ jr (vT s) 1 ++ jr s.pha.toNat 3 = L := by
      rw [← HL.out, ← HL1.out, HL0.out]; unfold ji uK; simp only [List.append_assoc]
     rw [hfin] at bd; clear hfin; have hbz := bd.lt; go_upto_region 21 with fail
     refine wp_region_lit ?_; refine je (enters_of Tryz.func85 (by kernel_rfl) rfl) (c := Yt b_bd b_bd L _ bd.holds (by omega)) (h := ?_); rintro e wn ⟨rfl, za⟩; have zf := B.size; replace B := B.trans (za.mono (by omega)); clear bd; refine ⟨_, rfl, ?_⟩; simp only [zo]; refine zy 1 ?_; refine wpList_nil ?_; go_wp2; go_ret; exact ⟨rfl, B⟩
    | false =>
     have hen : jr (Int.toNat 0) 1 = jr (vT s) 1 := by unfold vT; rw [hera]; rfl
     have HEN := Lib.hid hen; clear hera hen; go_upto_region 19 with fail
     refine wp_region_lit ?_; refine zy 2 ?_; refine qR (by first | rfl | simp [Region.wanted, yielded]) rfl (by simp only [Act.eval, qI]; rfl) (enters_of Tryz.func82 (by kernel_rfl) rfl) (by simp only [Act.eval, qI]; rfl) ?_
     refine (Vu b_bd b_bd (l1) (0) _ bd (by omega) (by omega) (by omega)).mono ?_; rintro e wn ⟨⟨_, rfl⟩, hu, za, hkm⟩; have zf := B.size; have zg := za.size; replace B := B.trans (za.mono (by omega)); replace r1 := r1.of_eq (za.block _ (by omega)); replace pc := pc.of_eq (za.block _ (by omega)); clear bd; have bd := hu; clear hu; refine ⟨_, rfl, ?_⟩; simp only [zo]; refine wpList_nil ?_; rw [HEN.out] at bd; go_upto_region 20 with fail
     refine wp_region_lit ?_; refine zy 3 ?_
     refine qR (by first | rfl | simp [Region.wanted, yielded]) rfl (by simp only [Act.eval, qI]; rfl) (enters_of Tryz.func82 (by kernel_rfl) rfl) (by simp only [Act.eval, qI]; rfl) ?_
     refine (XD b_bd b_bd (l1 ++ jr (vT s) 1) (s.pha) _ bd (by omega) (by simp only [List.length_append, zH]; omega) (by omega)).mono ?_
     rintro e wn ⟨⟨_, rfl⟩, hu, za, hkm⟩; have zf := B.size; have zg := za.size; replace B := B.trans (za.mono (by omega)); replace r1 := r1.of_eq (za.block _ (by omega)); replace pc := pc.of_eq (za.block _ (by omega)); clear bd; have bd := hu; clear hu; refine ⟨_, rfl, ?_⟩; simp only [zo]; refine wpList_nil ?_; have hfin : l1 ++ jr (vT s) 1 ++ jr s.pha.toNat 3 = L := by
      rw [← HL.out, ← HL1.out, HL0.out]; unfold ji uK; simp only [List.append_assoc]
     rw [hfin] at bd; clear hfin; have hbz := bd.lt; go_upto_region 21 with fail
     refine wp_region_lit ?_; refine je (enters_of Tryz.func85 (by kernel_rfl) rfl) (c := Yt b_bd b_bd L _ bd.holds (by omega)) (h := ?_); rintro e wn ⟨rfl, za⟩; have zf := B.size; replace B := B.trans (za.mono (by omega)); clear bd; refine ⟨_, rfl, ?_⟩; simp only [zo]; refine zy 1 ?_; refine wpList_nil ?_; go_wp2; go_ret; exact ⟨rfl, B⟩
/- Contract of Bytes of the reference. -/
section
variable {o : Oper} {a : Act} {C : World → Prop} {K : Act → Prop}
end
/- The reader of package octet: Read, Left, Take, Num, Failed; strings as slices of bytes. -/
/-! ### A row that holds bytes, made from a string -/
/-- The first cells of block b are the bytes l, and may be written. -/
def JP (w : World) (b : Nat) (l : List UInt8) : Prop := b < w.heap.size ∧ ∀ j, j < l.length → w.cell? ⟨b, j, none⟩ = some (Y (l.getD j 0)) ∧ w.frozen? ⟨b, j, none⟩ = false
section
variable {w : World} {b : Nat} {l : List UInt8}
theorem JP.lt (h : JP w b l) : b < w.heap.size := h.1
theorem JP.of_eq {w' : World} (h : JP w b l) (e : w'.heap[b]? = w.heap[b]?) : JP w' b l := by
 refine ⟨?_, fun j hj => ?_⟩
 ·have := h.1
  rcases Nat.lt_or_ge b w'.heap.size with k | k
  ·exact k
  ·rw [Array.getElem?_eq_none k, Array.getElem?_eq_getElem this] at e
   cases e
 ·obtain ⟨h1, h2⟩ := h.2 j hj
  refine ⟨(World.cell?_of_block (w := w) e).trans h1, ?_⟩; rw [← h2]; unfold World.frozen?; simp only [e]
theorem JP.below {w' : World} (h : JP w b l) (hb : Below w.heap.size w w') : JP w' b l := h.of_eq (hb.block b h.lt)
theorem JP.set (h : JP w b l) {p : Nat} (hp : p < l.length) (c : UInt8) : JP (w.setCell ⟨b, p, none⟩ (Y c)) b (l.set p c) := by
 refine ⟨by rw [World.size_setCell]; exact h.1, fun j hj => ?_⟩
 rw [List.length_set] at hj
 obtain ⟨h1, h2⟩ := h.2 j hj
 refine ⟨?_, by rw [World.frozen?_setCell]; exact h2⟩
 rw [List.getD_eq_getElem?_getD, List.getElem?_set]
 by_cases e : p = j
 ·subst e
  rw [if_pos rfl, if_pos hp]; exact World.cell?_setCell_same' _ _ _ (by rw [h1]; rfl)
 ·rw [if_neg e, World.cell?_setCell_other _ _ _ _ (by intro e2; injection e2 with _ e3; exact e e3), h1, List.getD_eq_getElem?_getD]
end
theorem zcp (w : World) (l : List UInt8) : ∃ cap w', (convert 9 75 (.string (yw l))).run Tryz.prog w = .ok (.slice (some ⟨w.heap.size, 0, none⟩) l.length cap) w' ∧ JP w' w.heap.size l ∧ Below w.heap.size w w' ∧ w'.heap.size = w.heap.size + 1 := by
 have hr := run_bytes_of_string (P := Tryz.prog) w 9 75 5 (yw l) Tryz.underlying9 Tryz.underlying75 Tryz.underlying5
 rw [jD] at hr
 refine ⟨_, _, hr, ⟨by rw [World.size_alloc]; show w.heap.size < w.heap.size + 1; omega, fun j hj => ?_⟩, ((Below.refl _ _).drew).alloc (Nat.le_refl _) _, by rw [World.size_alloc]; rfl⟩
 generalize hN : grownCap w l.length 0 5 = cap
 have hb : (w.drew.alloc (.cells (bytesRow (yw l) cap) 5 ((bytesRow (yw l) cap).size, (bytesRow (yw l) cap).size + 1))).heap[w.heap.size]? = some (.cells (bytesRow (yw l) cap) 5 ((bytesRow (yw l) cap).size, (bytesRow (yw l) cap).size + 1)) := by
  rw [zO]; exact if_pos rfl
 have zf : l.length ≤ (bytesRow (yw l) cap).size := by
  unfold bytesRow; rw [Array.size_append, Array.size_map]; have : (yw l).data.size = l.length := jD l; omega
 constructor
 ·rw [cell_of_row _ _ _ _ _ _ hb]
  unfold bytesRow; rw [Array.getElem?_append_left (by rw [Array.size_map]; have : (yw l).data.size = l.length := jD l; omega), Array.getElem?_map]
  have e : (yw l).data[j]? = some (l.getD j 0) := by
   show (l.toArray)[j]? = _
   rw [List.getElem?_toArray, List.getD_eq_getElem?_getD, List.getElem?_eq_getElem hj]
   rfl
  rw [e]
  rfl
 ·unfold World.frozen?
  simp only [hb]; simp
  omega
section
variable {ops : Array Oper} {rest : List Oper} {o : Oper} {a : Act} {w : World} {Q : Exit → Act → World → Prop}
theorem ve (hg : o.guard = none) (x : Operand) (ho : o.op = .convert 9 75 x) (l : List UInt8) (hx : a.eval x = .string (yw l))
  (h : ∀ b cap w', w.heap.size ≤ b → b ≤ w.heap.size → JP w' b l → Below b w w' → w'.heap.size = b + 1 → wpList Tryz.prog ops Q rest (a.put o.dst (.slice (some ⟨b, 0, none⟩) l.length cap)) w') : wpList Tryz.prog ops Q (o :: rest) a w :=
 wpList_plain hg fun K hK => by
  obtain ⟨cap, w', hr, h1, h2, h3⟩ := zcp w l; unfold Oper.wp execOp; simp only [ho, hx, hr, Sem.run_bind, Sem.run_pure, Result.andThen_ok]; exact hK _ _ (h _ cap _ (Nat.le_refl _) (Nat.le_refl _) h1 h2 h3)
/-- A boolean stored into a cell of a block. -/
theorem wE {t : TypeId} (hg : o.guard = none) (x y : Operand) (ho : o.op = .store 4 x y) (b i : Nat) (hx : a.eval x = .pointer (some ⟨b, i, none⟩)) (z : Bool) (hy : a.eval y = .bool z) {cs : Array Value} (ht : zK t w b cs) {c : Value} (hc : cs[i]? = some c)
  (h : ∀ w', zK t w' b (cs.setIfInBounds i (.bool z)) → qV b w w' → w'.heap.size = w.heap.size → wpList Tryz.prog ops Q rest (a.put o.dst undef) w') : wpList Tryz.prog ops Q (o :: rest) a w := by
 have c0 := ht.cell i hc
 have f0 := ht.frozen i
 refine qk hg x y ho (w.setCell ⟨b, i, none⟩ (.bool z)) ?_ (h _ ?_ ((qV.refl b w).setCell _) (by simp only [World.size_setCell]))
 ·rw [hx, hy]
  simp [go_sem, c0, f0]
 ·exact heap_setCell_same w b i cs _ _ ht
end
/-! ### A part of a string -/
theorem zeN (l : List UInt8) (a b : Nat) : (yw l).extract a b = yw (xx l a (b - a)) := by
 apply ByteArray.ext
 rw [ByteArray.data_extract]
 simp [yw, xx, List.extract]
theorem KT (l : List UInt8) (i j : Nat) (hij : i ≤ j) (hj : j ≤ l.length) (w : World) : (Instr.sliceAt 9 (.string (yw l)) (some (.int .i64 (i : Int))) (some (.int .i64 (j : Int))) none).run Tryz.prog w = .ok (.string (yw (xx l i (j - i)))) w := by
 have hs := jD l
 rw [← zeN]
 simp [go_sem, Instr.sliceAt, Instr.slice, Instr.sliceBounds, Instr.sliceBound, hs, hij, hj]
theorem JK {o : Oper} {a : Act} {C : World → Prop} {K : Act → Prop} {x p q : Operand} (h : o.op = .slice 9 x (some p) (some q) none) (l : List UInt8) (hx : a.eval x = .string (yw l)) (zi zj : Int) (hp : a.eval p = .int .i64 zi) (hq : a.eval q = .int .i64 zj) (i j : Nat) (hi : zi = i) (hj : zj = j) (hij : i ≤ j) (hjl : j ≤ l.length) (m : Nat) (hm : m = j - i) (hk : K (a.put o.dst (.string (yw (xx l i m))))) : o.quiet Tryz.prog a C K := by
 subst hi hj hm
 exact ⟨_, fun w hw => by unfold Oper.quietAt execOp; simp only [h, hx, hp, hq, Option.map_some, Option.map_none, KT l i j hij hjl w, Sem.run_bind, Sem.run_pure, Result.andThen_ok]; exact ⟨rfl, rfl⟩, hk⟩
/-! ### The length of a string -/
theorem VV {o : Oper} {a : Act} {C : World → Prop} {K : Act → Prop} {x : Operand} {t : TypeId} (h : o.op = .call { callee := .builtin .len, args := #[x], argTypes := #[t] }) (ht : Tryz.prog.underlying t = some .string) (l : List UInt8) (hx : a.eval x = .string (yw l)) (hk : K (a.put o.dst (.int .i64 (l.length : Int)))) : o.quiet Tryz.prog a C K := by
 obtain ⟨dst, op, ty, pos, after, guard⟩ := o
 simp only at h
 subst h
 refine ⟨_, fun w hw => ?_, hk⟩
 have hu := run_underlying ht w
 have hs := jD l
 have hl : (Builtin.len_ #[t] ty #[.string (yw l)]).run Tryz.prog w = .ok (goInt l.length) w := by simp [Builtin.len_, hu, hs]
 have key : ∀ ρ : Operand → Value, ρ x = .string (yw l) → (execOp ρ { dst, op := .call { callee := .builtin .len, args := #[x], argTypes := #[t] }, type := ty, pos, after, guard : Oper }).run Tryz.prog w = .ok (.value (.int .i64 (l.length : Int))) w := fun ρ hρ => by simp [go_sem, hρ, hl]
 unfold Oper.quietAt
 rw [key a.eval hx]
 exact ⟨rfl, rfl⟩
/-! ### The reader -/
def JR (l : List UInt8) (i : Nat) (f : Bool) : Array Value := #[.string (yw l), .int .i64 (i : Int), .bool f]
/-- What a reader takes: its bytes, its state. -/
def kS (l : List UInt8) (st : Nat × Bool) (m : Nat) : List UInt8 × (Nat × Bool) := if st.2 = false ∧ st.1 + m ≤ l.length then (xx l st.1 m, (st.1 + m, false)) else ([], (st.1, true))
theorem kB {l : List UInt8} {i m : Nat} (h : i + m ≤ l.length) : kS l (i, false) m = (xx l i m, (i + m, false)) := if_pos ⟨rfl, h⟩
theorem vD {l : List UInt8} {st : Nat × Bool} {m : Nat} (h : (kS l st m).2.2 = false) : st.2 = false ∧ (kS l st m).2.1 = st.1 + m ∧ st.1 + m ≤ l.length := by
 unfold kS at h ⊢
 split
 ·rename_i k
  exact ⟨k.1, rfl, k.2⟩
 ·rename_i k
  rw [if_neg k] at h; cases h
theorem kZ {l : List UInt8} {st : Nat × Bool} {m : Nat} (h : st.1 ≤ l.length) : (kS l st m).2.1 ≤ l.length := by
 unfold kS
 split
 ·rename_i k; exact k.2
 ·exact h
theorem Qv {l : List UInt8} {st : Nat × Bool} {m : Nat} : (kS l st m).1.length ≤ m := by
 unfold kS
 split
 ·unfold xx; rw [List.length_take]; omega
 ·exact Nat.zero_le _
theorem un {w : World} {b j : Nat} {v : Value} (h : w.cell? ⟨b, j, none⟩ = some v) : (Instr.loadAt 9 (.pointer (some ⟨b, j, none⟩))).run Tryz.prog w = .ok v w := by
 simp [go_sem, h]
theorem zg2 {w : World} {b : Nat} {l : List UInt8} {i : Nat} {fl : Bool} (h : zK 180 w b (JR l i fl)) : w.cell? ⟨b, 0, none⟩ = some (.string (yw l)) := h.cell 0 rfl
theorem zg1 {w : World} {b : Nat} {l : List UInt8} {i : Nat} {fl : Bool} (h : zK 180 w b (JR l i fl)) : w.cell? ⟨b, 1, none⟩ = some (.int .i64 (i : Int)) := h.cell 1 rfl
theorem zdU (l : List UInt8) (w : World) : Calls Tryz.prog 86 #[.string (yw l)] w fun e w' => ∃ b, (w.heap.size ≤ b ∧ b ≤ w.heap.size) ∧ e = .returned (.pointer (some ⟨b, 0, none⟩)) ∧ zK 180 w' b (JR l 0 false) ∧ Below w.heap.size w w' := by
 have B := Below.refl w.heap.size w
 go_enter Tryz.func86, Tryz.ntmps86
 go_upto_region 0 with fail
 refine wp_region_lit ?_
 refine zy 1 ?_
 refine wpList_nil ?_
 go_upto_region 1 with fail
 refine wp_region_lit ?_
 refine zy 2 ?_
 (refine zt (t := 180) rfl _ rfl _ rfl (zY B ?_); clear B; intro b_rd wn zb zd rd za zf zk B; simp only [zo])
 refine zy 1 ?_
 refine wpList_nil ?_
 have k1 : w.heap.size ≤ b_rd ∧ b_rd ≤ w.heap.size := by omega
 go_wp2
 go_ret
 exact ⟨_, k1, rfl, rd, B⟩
theorem V9 (l : List UInt8) (i : Nat) (fl : Bool) (b : Nat) (n : Int) (w : World) (rd : zK 180 w b (JR l i fl)) (hl : l.length ≤ 100000000) (hi : i ≤ l.length) (e : (l.length : Int) - i = n) : Calls Tryz.prog 139 #[.pointer (some ⟨b, 0, none⟩)] w fun e w' => e = .returned (.int .i64 n) ∧ Below w.heap.size w w' := by
 have B := Below.refl w.heap.size w
 have hs := jD l
 subst e
 go_enter Tryz.func139, Tryz.ntmps139
 go_upto_region 3 with fail
 refine zA (by kernel_rfl) (by kernel_rfl) ?_
 repeat (first | go_big_quiet_skip | (go_big_quiet_want; first | (refine zn (t := 9) rfl _ _ _ rfl (fun w hw => un (zg2 (zB rd w hw))) (by first | rfl | omega) ?_; simp only [zo]; go_big_quiet_on) | (refine zn (t := 3) rfl _ _ _ rfl (fun w hw => zu (zg1 (zB rd w hw))) (by first | rfl | omega) ?_; simp only [zo]; go_big_quiet_on) | (refine VV rfl Tryz.underlying9 l rfl ?_; simp only [zo]; go_big_quiet_on) | (go_big_quiet_op; first | go_big_quiet_on | go_big_quiet_call ((fail)))))
 refine wpQuiet_nil ?_
 intro wn za
 have zf := B.size
 have zg := za.size
 replace B := B.trans (za.mono B.size)
 go_wp2
 go_ret
 exact ⟨rfl, B⟩
theorem zap (l : List UInt8) (i : Nat) (fl : Bool) (b : Nat) (w : World) (rd : zK 180 w b (JR l i fl)) : Calls Tryz.prog 89 #[.pointer (some ⟨b, 0, none⟩)] w fun e w' => e = .returned (.bool fl) ∧ Below w.heap.size w w' := by
 have B := Below.refl w.heap.size w
 have c2 : w.cell? ⟨b, 2, none⟩ = some (.bool fl) := rd.cell 2 rfl
 go_enter Tryz.func89, Tryz.ntmps89
 go_wp2
 go_ret
 exact ⟨rfl, B⟩
set_option maxHeartbeats 1000000 in
theorem zdV (l : List UInt8) (i : Nat) (fl : Bool) (b m : Nat) (w : World) (rd : zK 180 w b (JR l i fl)) (hl : l.length ≤ 100000000) (hi : i ≤ l.length) (hm : m ≤ 1000) : Calls Tryz.prog 88 #[.pointer (some ⟨b, 0, none⟩), .int .i64 (m : Int)] w fun e w' => e = .returned (.string (yw (kS l (i, fl) m).1)) ∧ zK 180 w' b (JR l (kS l (i, fl) m).2.1 (kS l (i, fl) m).2.2) ∧ qV b w w' := by
 have B := kH.refl b w
 have q0 : decide ((m : Int) < 0) = false := decide_eq_false (by omega)
 have c2 : w.cell? ⟨b, 2, none⟩ = some (.bool fl) := rd.cell 2 rfl
 cases fl with
 | true =>
  have hT : kS l (i, true) m = ([], (i, true)) := if_neg (fun h => by cases h.1); rw [hT]; clear hT; go_enter Tryz.func88, Tryz.ntmps88
  go_upto_region 3 with fail
  refine wp_region_lit ?_; go_wp2_with (first | (refine wE (t := 180) rfl _ _ rfl _ 2 rfl true rfl rd rfl ?_; clear rd; intro wn ht ze zg; have zf := B.size; replace zg := Nat.le_of_eq zg.symm; replace B := kH.chg B ze; have rd := ht; clear ht; simp only [zo]) | fail)
  go_wp2; go_ret; exact ⟨rfl, rd, B.toChg⟩
 | false =>
  by_cases h : i + m ≤ l.length
  ·have q1 : ¬ ((l.length : Int) - i < (m : Int)) := by omega
   rw [kB h]; go_enter Tryz.func88, Tryz.ntmps88
   go_upto_region 5 with (first | (go_at_call 139; refine (V9 l i false b ((l.length : Int) - i) _ rd hl hi rfl).mono ?_; rintro e wn ⟨rfl, za⟩; have zf := B.size; have zg := za.size; replace B := B.trans (za.mono B.size); replace rd := rd.of_eq (za.block _ rd.lt); have c1 : wn.cell? ⟨b, 1, none⟩ = some (.int .i64 (i : Int)) := rd.cell 1 rfl) | fail)
   refine wp_region_lit ?_; go_wp2_with (first | (refine yg (t := 180) rfl _ _ rfl _ 1 rfl _ rfl rd rfl ?_; clear rd; intro wn ht ze zg; have zf := B.size; replace zg := Nat.le_of_eq zg.symm; replace B := kH.chg B ze; have rd := ht; clear ht; simp only [zo]) | fail)
   have hat : (i : Int) + (m : Int) = ((i + m : Nat) : Int) := by omega
   rw [hat] at rd; replace rd : zK 180 _ b (JR l (i + m) false) := rd; clear hat c1; go_upto_region 6 with fail
   refine zA (by kernel_rfl) (by kernel_rfl) ?_; repeat (first | go_big_quiet_skip | (go_big_quiet_want; first | (refine zn (t := 9) rfl _ _ _ rfl (fun w hw => un (zg2 (zB rd w hw))) (by first | rfl | omega) ?_; simp only [zo]; go_big_quiet_on) | (refine zn (t := 3) rfl _ _ _ rfl (fun w hw => zu (zg1 (zB rd w hw))) (by first | rfl | omega) ?_; simp only [zo]; go_big_quiet_on) | (refine JK rfl l rfl _ _ rfl rfl i (i + m) (by omega) (by omega) (by omega) h m (by omega) ?_; simp only [zo]; go_big_quiet_on) | (go_big_quiet_op; first | go_big_quiet_on | go_big_quiet_call ((fail)))))
   refine wpQuiet_nil ?_; intro wn za; have zf := B.size; have zg := za.size; replace B := B.trans (za.mono B.size); try replace rd := rd.below za
   go_wp2; go_ret; exact ⟨rfl, rd, B.toChg⟩
  ·have q1 : ((l.length : Int) - i < (m : Int)) := by omega
   have hT : kS l (i, false) m = ([], (i, true)) := if_neg (fun k => h k.2); rw [hT]; clear hT; go_enter Tryz.func88, Tryz.ntmps88
   go_upto_region 3 with (first | (go_at_call 139; refine (V9 l i false b ((l.length : Int) - i) _ rd hl hi rfl).mono ?_; rintro e wn ⟨rfl, za⟩; have zf := B.size; have zg := za.size; replace B := B.trans (za.mono B.size); replace rd := rd.of_eq (za.block _ rd.lt); have c1 : wn.cell? ⟨b, 1, none⟩ = some (.int .i64 (i : Int)) := rd.cell 1 rfl) | fail)
   refine wp_region_lit ?_; go_wp2_with (first | (refine wE (t := 180) rfl _ _ rfl _ 2 rfl true rfl rd rfl ?_; clear rd; intro wn ht ze zg; have zf := B.size; replace zg := Nat.le_of_eq zg.symm; replace B := kH.chg B ze; have rd := ht; clear ht; simp only [zo]) | fail)
   go_wp2; go_ret; exact ⟨rfl, rd, B.toChg⟩
end Go.Proofs.YtepelndbbhdofaaGreatDoor
