/- PixelMeans: for every sequence of at most 40 pixels with multiplicities, Mean returns what the reference returns after each step; a nil Mean ignores Add: the law returns true for every input, and its arguments read as they did. No condition. -/
import Derived.Test.YtipoloehdheeeaaPs
import Derived.Test.YtipoloehdheeeaaMd
import Derived.Test.YtipoloehdheeeaaFs
namespace Go.Proofs.Ytipoloehdheeeaa
open Go.RowKit Pl
set_option linter.unusedVariables false
set_option linter.unusedSimpArgs false

set_option maxHeartbeats 4000000 in
theorem walk_PixelMeans (a : Option Addr) (len cap : Nat) (hl : len ≤ maxLen) (w : World)
    (hel : ∀ i, i < len → ∃ b off q n, a = some ⟨b, off, none⟩ ∧ b < w.heap.size ∧ Px.ok q ∧ PxAt w b (off + i * 5) q ∧ w.cell? ⟨b, off + i * 5 + 4, none⟩ = some (.int .i64 n)) :
    Calls Try.prog 11 #[.slice a len cap] w fun e w' => e = .returned (.bool true) ∧ Below w.heap.size w w' := by
  unfold maxLen at hl
  have Hel := Lib.hid hel
  clear hel
  go_enter Try.func11, Try.ntmps11
  go_wp2_with fail
  refine (sanity _).mono ?_
  rintro e w1 ⟨rfl, hb1⟩
  go_wp2_with fail
  go_loopw [7, 8] (fun i _ wr => ∃ (k : Nat) (s : Acc), k ≤ 40 ∧ k ≤ len ∧ i = .int .i64 k ∧ s.ok (65536 * k) ∧ Below w.heap.size w wr ∧ w1.heap.size + 2 ≤ wr.heap.size ∧ PMean wr w1.heap.size s ∧ RMean wr (w1.heap.size + 1) s) (fun i _ _ => (40 - intOf i).toNat)
  case atStart =>
    refine ⟨0, Acc.zero, by omega, by omega, rfl, Acc.zero_ok, (hb1.alloc hb1.size _).alloc (by simp; have := hb1.size; omega) _, by simp, ?_, ?_⟩
    · unfold PMean; rw [heap_get_alloc, if_neg (by simp), heap_get_alloc, if_pos rfl]; rfl
    · unfold RMean; rw [heap_get_alloc, if_pos (by simp)]; rfl
  case round =>
    obtain ⟨k, s, hk, hkl, rfl, hs, hbr, hsz, hP, hR⟩ := hrel
    by_cases hlt : k < len
    · by_cases h40 : k < 40
      · obtain ⟨b, off, q, n, rfl, hbl, hq, hpx, hn⟩ := Hel.out k hlt
        have i1 : (k : Int) < (len : Int) := by omega
        obtain ⟨qr, qg, qb, qa⟩ := q
        have i2 : (k : Int) < 40 := by omega
        have hv : ∀ p : Px, Px.v p = .agg #[.int .u8 p.r, .int .u8 p.g, .int .u8 p.b, .int .u8 p.a] := fun _ => rfl
        have z1 := hb1.size
        have zr := hbr.size
        have Hq := Lib.hid hq
        have Hpx := Lib.hid hpx
        have Hn := Lib.hid hn
        have HP := Lib.hid hP
        have HR := Lib.hid hR
        clear hq hpx hn hP hR
        cases hp : ((k : Int) % 2 == 0)
        all_goals (
          obtain ⟨c0, c1, c2, c3⟩ := Hpx.out.of_eq (hbr.block b hbl)
          have c4 := (World.cell?_of_block (w := w) (a := ⟨b, off + k * 5 + 4, none⟩) (hbr.block b hbl)).trans Hn.out
          go_wp2_with fail
          refine (P_Add w1.heap.size s ⟨_, _, _, _⟩ _ (65536 * k) _ hs (by omega) Hq.out HP.out).mono ?_
          rintro e w2 ⟨rfl, hP2, hC2⟩
          have hb2 := Chg.below hbr hC2 z1 hbr.size
          have hR2 := (hC2.block (w1.heap.size + 1) (by omega) (by omega)).trans HR.out
          have HP2 := Lib.hid hP2
          have HR2 := Lib.hid hR2
          clear hP2 hR2 c0 c1 c2 c3 c4
          obtain ⟨c0, c1, c2, c3⟩ := Hpx.out.of_eq (hb2.block b hbl)
          have z2 := hC2.size
          go_wp2_with fail
          refine (R_Add (w1.heap.size + 1) s ⟨_, _, _, _⟩ _ (65536 * k) _ hs (by omega) Hq.out HR2.out).mono ?_
          rintro e w3 ⟨rfl, hR3, hC3⟩
          have hb3 := Chg.below hb2 hC3 (by omega) hb2.size
          have hP3 := (hC3.block w1.heap.size (by omega) (by omega)).trans HP2.out
          have HP3 := Lib.hid hP3
          have HR3 := Lib.hid hR3
          clear hP3 hR3 c0 c1 c2 c3
          obtain ⟨c0, c1, c2, c3⟩ := Hpx.out.of_eq (hb3.block b hbl)
          have z3 := hC3.size
          go_wp2_with fail
          refine (P_Add_nil ⟨_, _, _, _⟩ _ _).mono ?_
          rintro e w4 ⟨rfl, hB4⟩
          clear c0 c1 c2 c3
          have z4 := hB4.size
          have hok := addAcc_ok (n := if (k : Int) % 2 == 0 then bits .and .i64 n 7 else n) hs Hq.out
          rw [hp] at hok
          simp only [if_true, if_false, Bool.false_eq_true] at hok
          have HP4 := Lib.hid ((hB4.block w1.heap.size (by omega)).trans HP3.out)
          have HR4 := Lib.hid ((hB4.block (w1.heap.size + 1) (by omega)).trans HR3.out)
          go_wp2_with fail
          refine (P_MPixel w1.heap.size _ (65536 * k + 65536) _ hok (by omega) HP4.out).mono ?_
          rintro e w5 ⟨rfl, hB5⟩
          have z5 := hB5.size
          have HP5 := Lib.hid ((hB5.block w1.heap.size (by omega)).trans HP4.out)
          have HR5 := Lib.hid ((hB5.block (w1.heap.size + 1) (by omega)).trans HR4.out)
          go_wp2_with fail
          refine (R_MPixel (w1.heap.size + 1) _ (65536 * k + 65536) _ hok (by omega) HR5.out).mono ?_
          rintro e w6 ⟨rfl, hB6⟩
          have z6 := hB6.size
          have HP6 := Lib.hid ((hB6.block w1.heap.size (by omega)).trans HP5.out)
          have HR6 := Lib.hid ((hB6.block (w1.heap.size + 1) (by omega)).trans HR5.out)
          go_wp2_with fail
          go_roundw
          case rel => exact ⟨k + 1, _, by omega, by omega, by go_num, Acc.ok_mono hok (by omega), ((hb3.trans (hB4.mono hb3.size)).trans (hB5.mono (by omega))).trans (hB6.mono (by omega)), by omega, HP6.out, HR6.out⟩
          case measure => simp [intOf]; omega)
      · obtain rfl : k = 40 := by omega
        have HP := Lib.hid hP
        have HR := Lib.hid hR
        clear hP hR
        have i1 : (40 : Int) < (len : Int) := by omega
        have hv : ∀ p : Px, Px.v p = .agg #[.int .u8 p.r, .int .u8 p.g, .int .u8 p.b, .int .u8 p.a] := fun _ => rfl
        go_wp2_with fail
        refine (P_MPixel w1.heap.size _ (65536 * (40 : Nat)) _ hs (by omega) HP.out).mono ?_
        rintro e w5 ⟨rfl, hB5⟩
        have zr := hbr.size
        have z1 := hb1.size
        have z5 := hB5.size
        have HR5 := Lib.hid ((hB5.block (w1.heap.size + 1) (by omega)).trans HR.out)
        go_wp2_with fail
        refine (R_MPixel (w1.heap.size + 1) _ (65536 * (40 : Nat)) _ hs (by omega) HR5.out).mono ?_
        rintro e w6 ⟨rfl, hB6⟩
        have z6 := hB6.size
        go_wp2_with fail
        refine (P_MPixel_nil _).mono ?_
        rintro e w7 ⟨rfl, hB7⟩
        go_wp2_with fail
        go_ret
        exact ⟨rfl, ((hbr.trans (hB5.mono zr)).trans (hB6.mono (by omega))).trans (hB7.mono (by omega))⟩
    · obtain rfl : k = len := by omega
      have HP := Lib.hid hP
      have HR := Lib.hid hR
      clear hP hR
      have hv : ∀ p : Px, Px.v p = .agg #[.int .u8 p.r, .int .u8 p.g, .int .u8 p.b, .int .u8 p.a] := fun _ => rfl
      go_wp2_with fail
      refine (P_MPixel w1.heap.size _ (65536 * k) _ hs (by omega) HP.out).mono ?_
      rintro e w5 ⟨rfl, hB5⟩
      have zr := hbr.size
      have z1 := hb1.size
      have z5 := hB5.size
      have HR5 := Lib.hid ((hB5.block (w1.heap.size + 1) (by omega)).trans HR.out)
      go_wp2_with fail
      refine (R_MPixel (w1.heap.size + 1) _ (65536 * k) _ hs (by omega) HR5.out).mono ?_
      rintro e w6 ⟨rfl, hB6⟩
      have z6 := hB6.size
      go_wp2_with fail
      refine (P_MPixel_nil _).mono ?_
      rintro e w7 ⟨rfl, hB7⟩
      go_wp2_with fail
      go_ret
      exact ⟨rfl, ((hbr.trans (hB5.mono zr)).trans (hB6.mono (by omega))).trans (hB7.mono (by omega))⟩

namespace pixelMeans
open Go.ChangeShapes Go.WideShapes Go.ChangeAt Go.RowKit
open Go.ChangeMaps (open_string shut_string)
set_option maxRecDepth 100000 in
theorem lifted (os : Os) (started : os.Started) (H : Type) (enc : TypeId × Value → H) :
    ReturnsInHanded {} Try.checked os 11 .any (Rows.pixelMeansSpec.pre6 enc Try.prog Try.f11 Rows.pixelMeansRow.domain false) (Rows.pixelMeansSpec.post enc Try.prog Try.f11 false true false false) := by
  refine returnsInHanded_of_change (C := Try.checked) own started (by kernel_rfl) Try.func11
    (ChangeSpec.witness6 (enc := enc) (C := Try.checked) false ⟨#[], #[.slice none 0 0], []⟩ 8 (by kernel_rfl) (by kernel_rfl) (by kernel_rfl) (by kernel_rfl)) ?_
  intro W base args ds gs before hval0 hW hcnd _
  have hval : ∀ (j : Nat) t v, Try.f11.params[j]? = some t → args[j]? = some v → Value.okWide Try.prog W .any base t v := hval0
  have hW' := hW
  obtain ⟨p, q, hA0, hV, rfl, hfz, hnd⟩ := hW
  have hA : DataW.TrodAll enc Try.prog W 0 (fun _ => true) true Try.f11.params.toList args.toList ds p := hA0
  rw [Try.params11] at hA hval
  obtain ⟨v0, vs0, d0, ds0, p0, q0, hargs, rfl, rfl, h0, r0⟩ := trodAll_cons hA
  obtain ⟨rfl, rfl, rfl⟩ := trodAll_nil r0
  obtain rfl : args = #[v0] := by cases args; simp_all
  obtain ⟨rfl, rfl⟩ := trodVars_none hV
  have k0 := h0
  have lt0 : ∀ x ∈ p0, x.block < W.heap.size := by obtain ⟨m, hm⟩ := k0; exact DataW.trod_lt m _ _ _ hm
  obtain ⟨a0, len0, cap0, rfl, wl0, wel0⟩ := open_items (hval 0 44 v0 rfl rfl) h0
  clear hA0 hval0
  refine (walk_PixelMeans a0 len0 cap0 wl0  W wel0).mono fun e W' ⟨he, bel⟩ => ?_
  subst he
  exact ⟨_, rfl, _, _, _, [], _, [], hW', trodAll_mk1 (shut_bool Try.underlying4 _), (trodAll_cons_mk (Below.trod laidOut (by kernel_rfl) (of_decide_eq_true (by kernel_rfl)) k0 bel lt0) trodAll_mk0), rfl, bel.frame _, fun h => by cases h⟩
theorem over : Rows.pixelMeansRow.holds Try.pinned (OpenSpec.ofChange Rows.pixelMeansSpec) :=
  OpenClaim.holds_of_wide 11 Try.f11 rfl rfl rfl rfl rfl rfl rfl ⟨rfl, rfl, rfl, rfl, rfl⟩ rfl rfl rfl rfl rfl (by kernel_rfl) Try.func11 (by kernel_rfl)
    (of_decide_eq_true (by kernel_rfl)) (by unfold Func.isWrapper; first | (rw [if_pos (by decide +kernel)]; kernel_rfl) | (rw [if_neg (by decide +kernel)]; exact ⟨rfl, rfl⟩))
    (fun os started H enc _ => lifted os started H enc)
/-- THE STATEMENT: PixelMeans returns true for every input, and its arguments read as they did. -/
theorem proved : Rows.PixelMeansSaid := over
end pixelMeans

end Go.Proofs.Ytipoloehdheeeaa
