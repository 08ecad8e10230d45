/- PixelMeanOrder: the mean does not depend on the order of the pixels; adding a pixel n times at once equals adding it n times; the mean of equal pixels is that pixel: the law returns true for every input, and its arguments read as they did. No condition. -/
import Derived.Test.YtipoloehdheeeaaPs
import Derived.Test.YtipoloehdheeeaaMd
import Derived.Test.YtipoloehdheeeaaMe
import Derived.Test.YtipoloehdheeeaaFs
namespace Go.Proofs.Ytipoloehdheeeaa
open Go.RowKit Pl
set_option linter.unusedVariables false
set_option linter.unusedSimpArgs false

theorem P_MPixel2 (b : Nat) (s : Acc) (M : Int) (w : World) (h : PMean w b s ∧ s.ok M) (hM : M ≤ 1000000000) :
    Calls Try.prog 32 #[.pointer (some ⟨b, 0, none⟩)] w fun e w' => e = .returned (Px.v (meanP s)) ∧ Below w.heap.size w w' := P_MPixel b s M w h.2 hM h.1
/-- What the law keeps from round to round: i pixels are in a, the last i in b, the first one m times in c. -/
structure Three (w w1 wr : World) (f : Nat → Px) (N : Nat) (K : Int) (i : Nat) : Prop where
  below : Below w.heap.size w wr
  size : w1.heap.size + 3 ≤ wr.heap.size
  a : PMean wr w1.heap.size (mkAcc f K i)
  oka : (mkAcc f K i).ok (65536 * i)
  b : PMean wr (w1.heap.size + 1) (mkAcc (fun j => f (N - 1 - j)) K i)
  okb : (mkAcc (fun j => f (N - 1 - j)) K i).ok (65536 * (9 * i))
  c : ∃ m : Int, (i = 0 → m = 0) ∧ (0 < i → 1 ≤ m) ∧ PMean wr (w1.heap.size + 2) (plusAcc Acc.zero (f 0) m) ∧ (plusAcc Acc.zero (f 0) m).ok (65536 * i)

set_option maxHeartbeats 4000000 in
theorem walk_PixelMeanOrder (a : Option Addr) (len cap : Nat) (hl : len ≤ maxLen) (n : Int) (hn : (Lit.int .u8 n).wf = true) (w : World)
    (hel : ∀ i, i < len → ∃ b off q, a = some ⟨b, off, none⟩ ∧ b < w.heap.size ∧ Px.ok q ∧ PxAt w b (off + i * 4) q) :
    Calls Try.prog 12 #[.slice a len cap, .int .u8 n] w fun e w' => e = .returned (.bool true) ∧ Below w.heap.size w w' := by
  have hbn := wf_u8 hn
  unfold maxLen at hl
  obtain ⟨f, hf⟩ : ∃ f : Nat → Px, ∀ i, i < len → ∃ b off, a = some ⟨b, off, none⟩ ∧ b < w.heap.size ∧ Px.ok (f i) ∧ PxAt w b (off + i * 4) (f i) := by
    haveI : Inhabited Px := ⟨Px.zero⟩
    exact Deep.choose_lt (p := fun i q => ∃ b off, a = some ⟨b, off, none⟩ ∧ b < w.heap.size ∧ Px.ok q ∧ PxAt w b (off + i * 4) q) (fun i hi => by
      obtain ⟨b, off, q, h1, h2, h3, h4⟩ := hel i hi
      exact ⟨q, b, off, h1, h2, h3, h4⟩)
  obtain ⟨N, hN⟩ : ∃ N : Nat, N = min len 30 := ⟨_, rfl⟩
  have hN1 : N ≤ 30 := by omega
  have hN2 : N ≤ len := by omega
  have hN3 : ∀ i : Nat, i < len → i < 30 → i < N := fun i h1 h2 => by omega
  have hmin : min (len : Int) 30 = (N : Int) := by omega
  have k1 : 1 ≤ 1 + n % 9 := by omega
  have k2 : 1 + n % 9 ≤ 9 := by omega
  have Hf := Lib.hid hf
  have HN := Lib.hid hN3
  have Hmin := Lib.hid hmin
  clear hel hf hN hN3 hmin hn
  go_enter Try.func12, Try.ntmps12
  go_wp2_with fail
  refine (sanity _).mono ?_
  rintro e w1 ⟨rfl, hb1⟩
  have z1 := hb1.size
  go_wp2_with fail
  go_loopw [10, 11] (fun i _ wr => ∃ i' : Nat, i' ≤ N ∧ i = .int .i64 i' ∧ Three w w1 wr f N (1 + n % 9) i') (fun i _ _ => (30 - intOf i).toNat)
  case atStart =>
    have hz : ∀ g, mkAcc g (1 + n % 9) 0 = Acc.zero := fun g => mkAcc_zero g _
    refine ⟨0, by omega, rfl, ⟨((hb1.alloc hb1.size _).alloc (by simp; omega) _).alloc (by simp; omega) _, by simp, ?_, ?_, ?_, ?_, 0, fun _ => rfl, fun h => absurd h (by omega), ?_, ?_⟩⟩
    · rw [hz]; exact alloc_blk (alloc_blk (by rw [heap_get_alloc, if_pos rfl]; rfl))
    · rw [hz]; exact Acc.zero_ok
    · rw [hz]; exact alloc_blk (by rw [heap_get_alloc, if_pos (by simp)]; rfl)
    · rw [hz]; exact Acc.zero_ok
    · rw [plus_zero]; unfold PMean; rw [heap_get_alloc, if_pos (by simp)]; rfl
    · rw [plus_zero]; exact Acc.zero_ok
  case round =>
    obtain ⟨i, hi, rfl, T⟩ := hrel
    by_cases hlt : i < N
    · obtain ⟨b, off, rfl, hbl, hq, hpx⟩ := Hf.out i (by omega)
      obtain ⟨b', off', e', _, hq0, hpx0⟩ := Hf.out 0 (by omega)
      obtain ⟨b'', off'', e'', _, hqr, hpxr⟩ := Hf.out (N - 1 - i) (by omega)
      simp only [Option.some.injEq, Addr.mk.injEq, and_true] at e' e''
      obtain ⟨rfl, rfl⟩ := e'
      obtain ⟨rfl, rfl⟩ := e''
      rw [Nat.zero_mul, Nat.add_zero] at hpx0
      obtain ⟨hbr, hsz, hA, hoa, hB, hob, m, hm0, hm1, hC, hoc⟩ := T
      have i1 : (i : Int) < (len : Int) := by omega
      have i2 : (i : Int) < 30 := by omega
      have Hq := Lib.hid hq
      have Hq0 := Lib.hid hq0
      have Hqr := Lib.hid hqr
      have Hpx := Lib.hid hpx
      have Hpx0 := Lib.hid hpx0
      have Hpxr := Lib.hid hpxr
      have HA := Lib.hid hA
      have HB := Lib.hid hB
      have HC := Lib.hid hC
      have Hm0 := Lib.hid hm0
      have Hm1 := Lib.hid hm1
      have zr := hbr.size
      clear hq hq0 hqr hpx hpx0 hpxr hA hB hC hm0 hm1
      obtain ⟨c0, c1, c2, c3⟩ := Hpx.out.of_eq (hbr.block b hbl)
      go_wp2_with fail
      refine (P_Add w1.heap.size _ (f i) _ (65536 * i) _ hoa (by omega) Hq.out HA.out).mono ?_
      rintro e w2 ⟨rfl, hA2, hC2⟩
      rw [addAcc_plus k1 (by omega), mkAcc_succ] at hA2
      have hoa2 := addAcc_ok (n := 1 + n % 9) hoa Hq.out
      rw [addAcc_plus k1 (by omega), mkAcc_succ] at hoa2
      have HA2 := Lib.hid hA2
      clear hA2 c0 c1 c2 c3
      have hb2 := Chg.below hbr hC2 z1 hbr.size
      have z2 := hC2.size
      have HB2 := Lib.hid ((hC2.block (w1.heap.size + 1) (by omega) (by omega)).trans HB.out)
      have HC2 := Lib.hid ((hC2.block (w1.heap.size + 2) (by omega) (by omega)).trans HC.out)
      go_wp2_with fail
      obtain ⟨wo, hwo⟩ : ∃ wo : World, wo = w2 := ⟨_, rfl⟩
      go_loopw [11] (fun j wq => ∃ j' : Nat, (j' : Int) ≤ 1 + n % 9 ∧ j = .int .i64 j' ∧ Below w.heap.size w wq ∧ w2.heap.size ≤ wq.heap.size ∧ PMean wq w1.heap.size (mkAcc f (1 + n % 9) (i + 1)) ∧
          wq.heap[w1.heap.size + 2]? = w2.heap[w1.heap.size + 2]? ∧ PMean wq (w1.heap.size + 1) (plusAcc (mkAcc (fun j => f (N - 1 - j)) (1 + n % 9) i) (f (N - 1 - i)) j') ∧
          (plusAcc (mkAcc (fun j => f (N - 1 - j)) (1 + n % 9) i) (f (N - 1 - i)) j').ok (65536 * (9 * i + j'))) (fun j _ => (9 - intOf j).toNat)
      case atStart =>
        refine ⟨0, by omega, rfl, hb2, Nat.le_refl _, HA2.out, rfl, ?_, ?_⟩
        · rw [show ((0 : Nat) : Int) = 0 from rfl, plus_zero]; exact HB2.out
        · rw [show ((0 : Nat) : Int) = 0 from rfl, plus_zero]; exact Acc.ok_mono hob (by omega)
      case round =>
        obtain ⟨j, hj, rfl, hbq, hzq, hAq, hCq, hBq, hobq⟩ := hrel
        have HAq := Lib.hid hAq
        have HBq := Lib.hid hBq
        have HCq := Lib.hid hCq
        clear hAq hBq hCq
        by_cases hjk : (j : Int) < 1 + n % 9
        · have hmin := Hmin.out
          have e2 : (N : Int) - 1 - (i : Int) = ((N - 1 - i : Nat) : Int) := by omega
          have i3 : ((N - 1 - i : Nat) : Int) < (len : Int) := by omega
          have i4 : (0 : Int) ≤ ((N - 1 - i : Nat) : Int) := by omega
          obtain ⟨c0, c1, c2, c3⟩ := Hpxr.out.of_eq (hbq.block b hbl)
          go_wp2_with fail
          refine (P_Add (w1.heap.size + 1) _ (f (N - 1 - i)) _ (65536 * (9 * i + j)) _ hobq (by omega) Hqr.out HBq.out).mono ?_
          rintro e w3 ⟨rfl, hB3, hC3⟩
          rw [addAcc_plus (by omega) (by omega), plus_plus] at hB3
          have hob3 := addAcc_ok (n := 1) hobq Hqr.out
          rw [addAcc_plus (by omega) (by omega), plus_plus] at hob3
          have HB3 := Lib.hid hB3
          clear hB3 c0 c1 c2 c3 e2 hmin
          have hb3 := Chg.below hbq hC3 (by omega) hbq.size
          have z3 := hC3.size
          have HA3 := Lib.hid ((hC3.block w1.heap.size (by omega) (by omega)).trans HAq.out)
          have HC3 := Lib.hid ((hC3.block (w1.heap.size + 2) (by omega) (by omega)).trans HCq.out)
          go_wp2_with fail
          go_roundw
          case rel => exact ⟨j + 1, by omega, by go_num, hb3, by omega, HA3.out, HC3.out, HB3.out, Acc.ok_mono hob3 (by omega)⟩
          case measure => simp [intOf]; omega
        · have hje : (j : Int) = 1 + n % 9 := by omega
          rw [hje, mkAcc_succ (fun j => f (N - 1 - j)) (1 + n % 9) i] at HBq hobq
          clear hje
          obtain ⟨c0, c1, c2, c3⟩ := Hpx0.out.of_eq (hbq.block b hbl)
          have i5 : (0 : Int) < (len : Int) := by omega
          go_wp2_with fail
          refine (P_Add (w1.heap.size + 2) _ (f 0) _ (65536 * i) _ hoc (by omega) Hq0.out (HCq.out.trans HC2.out)).mono ?_
          rintro e w3 ⟨rfl, hC3, hch3⟩
          rw [addAcc_plus (by omega) (by omega), plus_plus] at hC3
          have hoc3 := addAcc_ok (n := 1 + n % 9 + i) hoc Hq0.out
          rw [addAcc_plus (by omega) (by omega), plus_plus] at hoc3
          have HC3 := Lib.hid hC3
          clear hC3 c0 c1 c2 c3
          have hb3 := Chg.below hbq hch3 (by omega) hbq.size
          have z3 := hch3.size
          have HA3 := Lib.hid ((hch3.block w1.heap.size (by omega) (by omega)).trans HAq.out)
          have HB3 := Lib.hid ((hch3.block (w1.heap.size + 1) (by omega) (by omega)).trans HBq.out)
          go_wp2_with fail
          go_roundw
          case rel =>
            first
              | exact ⟨i + 1, by omega, by go_num, ⟨hb3, by omega, HA3.out, Acc.ok_mono hoa2 (by omega), HB3.out, Acc.ok_mono hobq (by omega), _, fun h => absurd h (by omega), fun _ => by have := Hm0.out; have := Hm1.out; omega, HC3.out, Acc.ok_mono hoc3 (by omega)⟩⟩
              | ((repeat apply Exists.intro); exact ⟨⟨i + 1, by omega, by go_num, ⟨hb3, by omega, HA3.out, Acc.ok_mono hoa2 (by omega), HB3.out, Acc.ok_mono hobq (by omega), _, fun h => absurd h (by omega), fun _ => by have := Hm0.out; have := Hm1.out; omega, HC3.out, Acc.ok_mono hoc3 (by omega)⟩⟩, rfl⟩)
          case measure => simp [intOf]; omega
    · obtain rfl : i = N := by omega
      obtain ⟨hbr, hsz, hA, hoa, hB, hob, m, hm0, hm1, hC, hoc⟩ := T
      rw [mkAcc_rev f (1 + n % 9) i] at hB hob
      have HA := Lib.hid hA
      have HB := Lib.hid hB
      have HC := Lib.hid hC
      have Hm1 := Lib.hid hm1
      have zr := hbr.size
      clear hA hB hC hm0 hm1
      have hv : ∀ p : Px, Px.v p = .agg #[.int .u8 p.r, .int .u8 p.g, .int .u8 p.b, .int .u8 p.a] := fun _ => rfl
      have pA : ∀ u, PMean (ov wr u) w1.heap.size (mkAcc f (1 + n % 9) i) ∧ (mkAcc f (1 + n % 9) i).ok (65536 * i) := fun u => ⟨((ov_below wr u).block _ (by omega)).trans HA.out, hoa⟩
      have pB : ∀ u, PMean (ov wr u) (w1.heap.size + 1) (mkAcc f (1 + n % 9) i) ∧ (mkAcc f (1 + n % 9) i).ok (65536 * i) := fun u => ⟨((ov_below wr u).block _ (by omega)).trans HB.out, hoa⟩
      have pC : ∀ u, PMean (ov wr u) (w1.heap.size + 2) (plusAcc Acc.zero (f 0) m) ∧ (plusAcc Acc.zero (f 0) m).ok (65536 * i) := fun u => ⟨((ov_below wr u).block _ (by omega)).trans HC.out, hoc⟩
      have PA := Lib.hid pA
      have PB := Lib.hid pB
      have PC := Lib.hid pC
      clear pA pB pC hoa hob hoc
      by_cases h0 : len = 0
      · subst h0
        have n1 : ¬ ((i : Int) < 0) := by omega
        go_wp2_with fail
        refine wp_region_ov (by kernel_rfl) (by kernel_rfl) ?_
        repeat (go_big_quiet_step ((first | (go_at_call 32; exact calls_ov (P_MPixel2 _ _ _ _ (by first | exact PA.out _ | exact PB.out _ | exact PC.out _) (by omega))))))
        refine wpQuiet_nil ?_
        intro w2 hb2
        obtain ⟨hc2, hf2⟩ := bcell hb2
        have hs2 := hb2.size
        try simp only [World.size_alloc, World.size_setCell, World.size_drew] at hs2
        have hbb2 := hb2.mono (B' := w.heap.size) (by first | omega | (simp only [World.size_alloc, World.size_setCell, World.size_drew]; omega))
        go_wp2
        go_ret
        exact ⟨rfl, hbr.trans (hb2.mono zr)⟩
      · obtain ⟨b, off, rfl, hbl, hq0, hpx0⟩ := Hf.out 0 (by omega)
        rw [Nat.zero_mul, Nat.add_zero] at hpx0
        have Hq0 := Lib.hid hq0
        have hme := mean_mult hq0 (Hm1.out (by have := HN.out 0; omega))
        obtain ⟨c0, c1, c2, c3⟩ := hpx0.of_eq (hbr.block b hbl)
        have lbb : b < wr.heap.size := by omega
        have i5 : (0 : Int) < (len : Int) := by omega
        have i6 : ((len : Int) == 0) = false := by rw [beq_eq_false_iff_ne]; omega
        clear hq0 hpx0
        by_cases h1 : i < len
        · have i1 : (i : Int) < (len : Int) := by omega
          have i2 : ¬ ((i : Int) < 30) := by have := HN.out i h1; omega
          go_wp2_with fail
          refine wp_region_ov (by kernel_rfl) (by kernel_rfl) ?_
          repeat (go_big_quiet_step ((first | (go_at_call 32; exact calls_ov (P_MPixel2 _ _ _ _ (by first | exact PA.out _ | exact PB.out _ | exact PC.out _) (by omega))) | (go_at_call 21; exact calls_ov (P_Clean (f 0) _ Hq0.out)))))
          refine wpQuiet_nil ?_
          intro w2 hb2
          obtain ⟨hc2, hf2⟩ := bcell hb2
          have hs2 := hb2.size
          try simp only [World.size_alloc, World.size_setCell, World.size_drew] at hs2
          have hbb2 := hb2.mono (B' := w.heap.size) (by first | omega | (simp only [World.size_alloc, World.size_setCell, World.size_drew]; omega))
          go_wp2
          go_ret
          exact ⟨rfl, hbr.trans (hb2.mono zr)⟩
        · have i1 : ¬ ((i : Int) < (len : Int)) := by omega
          go_wp2_with fail
          refine wp_region_ov (by kernel_rfl) (by kernel_rfl) ?_
          repeat (go_big_quiet_step ((first | (go_at_call 32; exact calls_ov (P_MPixel2 _ _ _ _ (by first | exact PA.out _ | exact PB.out _ | exact PC.out _) (by omega))) | (go_at_call 21; exact calls_ov (P_Clean (f 0) _ Hq0.out)))))
          refine wpQuiet_nil ?_
          intro w2 hb2
          obtain ⟨hc2, hf2⟩ := bcell hb2
          have hs2 := hb2.size
          try simp only [World.size_alloc, World.size_setCell, World.size_drew] at hs2
          have hbb2 := hb2.mono (B' := w.heap.size) (by first | omega | (simp only [World.size_alloc, World.size_setCell, World.size_drew]; omega))
          go_wp2
          go_ret
          exact ⟨rfl, hbr.trans (hb2.mono zr)⟩

namespace pixelMeanOrder
open Go.ChangeShapes Go.WideShapes Go.ChangeAt Go.RowKit
open Go.ChangeMaps (open_string shut_string)
set_option maxRecDepth 100000 in
theorem lifted (os : Os) (started : os.Started) (H : Type) (enc : TypeId × Value → H) :
    ReturnsInHanded {} Try.checked os 12 .any (Rows.pixelMeanOrderSpec.pre6 enc Try.prog Try.f12 Rows.pixelMeanOrderRow.domain false) (Rows.pixelMeanOrderSpec.post enc Try.prog Try.f12 false true false false) := by
  refine returnsInHanded_of_change (C := Try.checked) own started (by kernel_rfl) Try.func12
    (ChangeSpec.witness6 (enc := enc) (C := Try.checked) false ⟨#[], #[.slice none 0 0, .int .u8 0], []⟩ 8 (by kernel_rfl) (by kernel_rfl) (by kernel_rfl) (by kernel_rfl)) ?_
  intro W base args ds gs before hval0 hW hcnd _
  have hval : ∀ (j : Nat) t v, Try.f12.params[j]? = some t → args[j]? = some v → Value.okWide Try.prog W .any base t v := hval0
  have hW' := hW
  obtain ⟨p, q, hA0, hV, rfl, hfz, hnd⟩ := hW
  have hA : DataW.TrodAll enc Try.prog W 0 (fun _ => true) true Try.f12.params.toList args.toList ds p := hA0
  rw [Try.params12] at hA hval
  obtain ⟨v0, vs0, d0, ds0, p0, q0, hargs, rfl, rfl, h0, r0⟩ := trodAll_cons hA
  obtain ⟨v1, vs1, d1, ds1, p1, q1, rfl, rfl, rfl, h1, r1⟩ := trodAll_cons r0
  obtain ⟨rfl, rfl, rfl⟩ := trodAll_nil r1
  obtain rfl : args = #[v0, v1] := by cases args; simp_all
  obtain ⟨rfl, rfl⟩ := trodVars_none hV
  have k0 := h0
  have lt0 : ∀ x ∈ p0, x.block < W.heap.size := by obtain ⟨m, hm⟩ := k0; exact DataW.trod_lt m _ _ _ hm
  have k1 := h1
  have lt1 : ∀ x ∈ p1, x.block < W.heap.size := by obtain ⟨m, hm⟩ := k1; exact DataW.trod_lt m _ _ _ hm
  obtain ⟨a0, len0, cap0, rfl, wl0, wel0⟩ := open_pxs (hval 0 57 v0 rfl rfl) h0
  obtain ⟨a1, rfl, rfl, rfl, w1⟩ := open_int Try.underlying5 (hval 1 5 v1 rfl rfl) h1
  clear hA0 hval0
  refine (walk_PixelMeanOrder a0 len0 cap0 wl0 a1  w1 W wel0).mono fun e W' ⟨he, bel⟩ => ?_
  subst he
  exact ⟨_, rfl, _, _, _, [], _, [], hW', trodAll_mk1 (shut_bool Try.underlying4 _), (trodAll_cons_mk (Below.trod laidOut (by kernel_rfl) (of_decide_eq_true (by kernel_rfl)) k0 bel lt0) (trodAll_cons_mk (Below.trod laidOut (by kernel_rfl) (of_decide_eq_true (by kernel_rfl)) k1 bel lt1) trodAll_mk0)), rfl, bel.frame _, fun h => by cases h⟩
theorem over : Rows.pixelMeanOrderRow.holds Try.pinned (OpenSpec.ofChange Rows.pixelMeanOrderSpec) :=
  OpenClaim.holds_of_wide 12 Try.f12 rfl rfl rfl rfl rfl rfl rfl ⟨rfl, rfl, rfl, rfl, rfl⟩ rfl rfl rfl rfl rfl (by kernel_rfl) Try.func12 (by kernel_rfl)
    (of_decide_eq_true (by kernel_rfl)) (by unfold Func.isWrapper; first | (rw [if_pos (by decide +kernel)]; kernel_rfl) | (rw [if_neg (by decide +kernel)]; exact ⟨rfl, rfl⟩))
    (fun os started H enc _ => lifted os started H enc)
/-- THE STATEMENT: PixelMeanOrder returns true for every input, and its arguments read as they did. -/
theorem proved : Rows.PixelMeanOrderSaid := over
end pixelMeanOrder

end Go.Proofs.Ytipoloehdheeeaa
