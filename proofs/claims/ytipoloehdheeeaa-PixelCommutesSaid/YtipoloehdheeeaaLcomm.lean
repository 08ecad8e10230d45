/- PixelCommutes: nine of the blend modes are commutative, Overlay is HardLight with exchanged arguments, and all results are in 0..255: the law returns true for every input, and its arguments read as they did. No condition. -/
import Derived.Test.YtipoloehdheeeaaPs
import Derived.Test.YtipoloehdheeeaaPb
import Derived.Test.YtipoloehdheeeaaFr
namespace Go.Proofs.Ytipoloehdheeeaa
open Go.RowKit Pl
set_option linter.unusedVariables false
set_option linter.unusedSimpArgs false

def nineModes : List Int := [1, 2, 4, 5, 10, 11, 12, 14, 15]
theorem nine_comm (k : Nat) (hk : k < 9) (x y : Int) : blendI (nineModes.getD k 0) x y = blendI (nineModes.getD k 0) y x := by
  apply blendI_comm
  have h : k = 0 ∨ k = 1 ∨ k = 2 ∨ k = 3 ∨ k = 4 ∨ k = 5 ∨ k = 6 ∨ k = 7 ∨ k = 8 := by omega
  rcases h with rfl | rfl | rfl | rfl | rfl | rfl | rfl | rfl | rfl <;> simp [nineModes]
theorem nine_cell (k : Nat) (hk : k < 9) : (#[Value.int .i64 1, .int .i64 2, .int .i64 4, .int .i64 5, .int .i64 10, .int .i64 11, .int .i64 12, .int .i64 14, .int .i64 15] : Array Value)[k]? = some (.int .i64 (nineModes.getD k 0)) := by
  have h : k = 0 ∨ k = 1 ∨ k = 2 ∨ k = 3 ∨ k = 4 ∨ k = 5 ∨ k = 6 ∨ k = 7 ∨ k = 8 := by omega
  rcases h with rfl | rfl | rfl | rfl | rfl | rfl | rfl | rfl | rfl <;> rfl

set_option maxHeartbeats 2000000 in
theorem walk_PixelCommutes (x y : Int) (w0 : (Lit.int .u8 x).wf = true) (w1 : (Lit.int .u8 y).wf = true) (w : World) :
    Calls Try.prog 5 #[.int .u8 x, .int .u8 y] w fun e w' => e = .returned (.bool true) ∧ Below w.heap.size w w' := by
  have bx := wf_u8 w0
  have by' := wf_u8 w1
  clear w0 w1
  go_enter Try.func5, Try.ntmps5
  go_wp2_with fail
  refine (sanity _).mono ?_
  rintro e w1 ⟨rfl, hb1⟩
  obtain ⟨hc1, hf1⟩ := bcell hb1
  have hs1 := hb1.size
  try simp only [World.size_alloc, World.size_setCell, World.size_drew] at hs1
  have hbb1 := hb1.mono (B' := w.heap.size) (by first | omega | (simp only [World.size_alloc, World.size_setCell, World.size_drew]; omega))
  go_wp2_with fail
  go_loopw [9] (fun i wr => ∃ k : Nat, k ≤ 9 ∧ i = .int .i64 k ∧ Below w.heap.size w wr ∧ w1.heap.size < wr.heap.size ∧
      wr.heap[w1.heap.size]? = some (.cells #[.int .i64 1, .int .i64 2, .int .i64 4, .int .i64 5, .int .i64 10, .int .i64 11, .int .i64 12, .int .i64 14, .int .i64 15] 31 (0, 0))) (fun i _ => (9 - intOf i).toNat)
  case atStart =>
    refine ⟨0, by omega, rfl, ?_, by simp, by rw [heap_get_alloc, if_pos rfl]⟩
    repeat' (first | (with_reducible exact Below.refl _ _) | (with_reducible assumption) | (with_reducible refine Below.setCell ?_ (by dsimp only; omega) _) | (with_reducible refine Below.alloc ?_ (by first | omega | (simp only [World.size_alloc, World.size_setCell, World.size_drew]; omega)) _) | (with_reducible refine Below.drew ?_) | (with_reducible refine Below.trans ?_ hbb1))
  case round =>
    obtain ⟨k, hk, rfl, hbr, hlr, hblk⟩ := hrel
    by_cases hlt : k < 9
    · have hck := ((cells_of_block hblk).1 k).trans (nine_cell k hlt)
      have hcomm := nine_comm k hlt x y
      obtain ⟨m, hm⟩ : ∃ m, m = nineModes.getD k 0 := ⟨_, rfl⟩
      rw [← hm] at hck hcomm
      have Hblk := Lib.hid hblk
      clear hblk hm
      have i0 : (0 : Int) ≤ (k : Int) := by omega
      have i1 : (k : Int) < 9 := by omega
      go_wp2
      refine wp_region_ov (by kernel_rfl) (by kernel_rfl) ?_
      repeat (go_big_quiet_step ((first | (go_at_call 14; exact calls_ov (P_Blend _ _ _ _)))))
      refine wpQuiet_nil ?_
      intro w2 hb2
      obtain ⟨hc2, hf2⟩ := bcell hb2
      have hs2 := hb2.size
      try simp only [World.size_alloc, World.size_setCell, World.size_drew] at hs2
      have hbb2 := hb2.mono (B' := w.heap.size) (by first | omega | (simp only [World.size_alloc, World.size_setCell, World.size_drew]; omega))
      have l2 : w1.heap.size < w2.heap.size := by omega
      have hblk2 := (hb2.block w1.heap.size hlr).trans Hblk.out
      have Hb := Lib.hid hblk2
      clear hblk2
      go_wp2
      go_roundw
      case rel => exact ⟨k + 1, by omega, by go_num, hbr.trans hbb2, l2, Hb.out⟩
      case measure => simp [intOf]; omega
    · obtain rfl : k = 9 := by omega
      go_wp2
      go_loopw [10, 11] (fun i _ wr => ∃ k : Nat, k ≤ 16 ∧ i = .int .i64 k ∧ Below w.heap.size w wr) (fun i _ _ => (16 - intOf i).toNat)
      case atStart => exact ⟨0, by omega, rfl, hbr⟩
      case round =>
        obtain ⟨k, hk, rfl, hbq⟩ := hrel
        have hbd := blendI_bd k x y
        by_cases hlt : k < 16
        · go_wp2_with fail
          refine (P_Blend _ _ _ _).mono ?_
          rintro e w3 ⟨rfl, hb3⟩
          have hz3 := hbq.size
          have n1 : ¬ blendI k x y < 0 := by omega
          have n2 : ¬ 255 < blendI k x y := by omega
          go_wp2_with fail
          go_roundw
          case rel => (repeat apply Exists.intro); exact ⟨⟨k + 1, by omega, by go_num, hbq.trans (hb3.mono hz3)⟩, rfl⟩
          case measure => simp [intOf]; omega
        · go_wp2_with fail
          refine (P_Blend _ _ _ _).mono ?_
          rintro e w3 ⟨rfl, hb3⟩
          have hz3 := hbq.size
          go_wp2_with fail
          refine (P_Blend _ _ _ _).mono ?_
          rintro e w4 ⟨rfl, hb4⟩
          have hz4 := hb3.size
          have e1 := blendI_overlay x y
          go_wp2_with fail
          go_ret
          refine ⟨rfl, ?_⟩
          exact (hbq.trans (hb3.mono hz3)).trans (hb4.mono (by omega))

namespace pixelCommutes
open Go.ChangeShapes Go.WideShapes Go.ChangeAt Go.RowKit
open Go.ChangeMaps (open_string shut_string)
set_option maxRecDepth 100000 in
theorem lifted (os : Os) (started : os.Started) (H : Type) (enc : TypeId × Value → H) :
    ReturnsInHanded {} Try.checked os 5 .any (Rows.pixelCommutesSpec.pre6 enc Try.prog Try.f5 Rows.pixelCommutesRow.domain false) (Rows.pixelCommutesSpec.post enc Try.prog Try.f5 false true false false) := by
  refine returnsInHanded_of_change (C := Try.checked) own started (by kernel_rfl) Try.func5
    (ChangeSpec.witness6 (enc := enc) (C := Try.checked) false ⟨#[], #[.int .u8 0, .int .u8 0], []⟩ 8 (by kernel_rfl) (by kernel_rfl) (by kernel_rfl) (by kernel_rfl)) ?_
  intro W base args ds gs before hval0 hW hcnd _
  have hval : ∀ (j : Nat) t v, Try.f5.params[j]? = some t → args[j]? = some v → Value.okWide Try.prog W .any base t v := hval0
  have hW' := hW
  obtain ⟨p, q, hA0, hV, rfl, hfz, hnd⟩ := hW
  have hA : DataW.TrodAll enc Try.prog W 0 (fun _ => true) true Try.f5.params.toList args.toList ds p := hA0
  rw [Try.params5] at hA hval
  obtain ⟨v0, vs0, d0, ds0, p0, q0, hargs, rfl, rfl, h0, r0⟩ := trodAll_cons hA
  obtain ⟨v1, vs1, d1, ds1, p1, q1, rfl, rfl, rfl, h1, r1⟩ := trodAll_cons r0
  obtain ⟨rfl, rfl, rfl⟩ := trodAll_nil r1
  obtain rfl : args = #[v0, v1] := by cases args; simp_all
  obtain ⟨rfl, rfl⟩ := trodVars_none hV
  have k0 := h0
  have lt0 : ∀ x ∈ p0, x.block < W.heap.size := by obtain ⟨m, hm⟩ := k0; exact DataW.trod_lt m _ _ _ hm
  have k1 := h1
  have lt1 : ∀ x ∈ p1, x.block < W.heap.size := by obtain ⟨m, hm⟩ := k1; exact DataW.trod_lt m _ _ _ hm
  obtain ⟨a0, rfl, rfl, rfl, w0⟩ := open_int Try.underlying5 (hval 0 5 v0 rfl rfl) h0
  obtain ⟨a1, rfl, rfl, rfl, w1⟩ := open_int Try.underlying5 (hval 1 5 v1 rfl rfl) h1
  clear hA0 hval0
  refine (walk_PixelCommutes a0 a1 w0 w1 W).mono fun e W' ⟨he, bel⟩ => ?_
  subst he
  exact ⟨_, rfl, _, _, _, [], _, [], hW', trodAll_mk1 (shut_bool Try.underlying4 _), (trodAll_cons_mk (Below.trod laidOut (by kernel_rfl) (of_decide_eq_true (by kernel_rfl)) k0 bel lt0) (trodAll_cons_mk (Below.trod laidOut (by kernel_rfl) (of_decide_eq_true (by kernel_rfl)) k1 bel lt1) trodAll_mk0)), rfl, bel.frame _, fun h => by cases h⟩
theorem over : Rows.pixelCommutesRow.holds Try.pinned (OpenSpec.ofChange Rows.pixelCommutesSpec) :=
  OpenClaim.holds_of_wide 5 Try.f5 rfl rfl rfl rfl rfl rfl rfl ⟨rfl, rfl, rfl, rfl, rfl⟩ rfl rfl rfl rfl rfl (by kernel_rfl) Try.func5 (by kernel_rfl)
    (of_decide_eq_true (by kernel_rfl)) (by unfold Func.isWrapper; first | (rw [if_pos (by decide +kernel)]; kernel_rfl) | (rw [if_neg (by decide +kernel)]; exact ⟨rfl, rfl⟩))
    (fun os started H enc _ => lifted os started H enc)
/-- THE STATEMENT: PixelCommutes returns true for every input, and its arguments read as they did. -/
theorem proved : Rows.PixelCommutesSaid := over
end pixelCommutes

end Go.Proofs.Ytipoloehdheeeaa
