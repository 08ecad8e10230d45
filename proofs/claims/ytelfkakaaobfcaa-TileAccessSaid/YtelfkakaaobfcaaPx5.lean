/- Contracts of the closures of package pixel, of 'channels', Clean, Fade, and of the reference's. -/
import Derived.Test.YtelfkakaaobfcaaPx4
namespace Go.Proofs.Ytelfkakaaobfcaa
open Go.RowKit Pl
set_option linter.unusedVariables false
set_option linter.unusedSimpArgs false

def Px.v (p : Px) : Value := .agg #[.int .u8 p.r, .int .u8 p.g, .int .u8 p.b, .int .u8 p.a]

/-- A function value of two ints: what it does from the world w0 on. -/
def Clo (F : Nat) (caps : Array Value) (φ : Int → Int → Int) (w0 : World) : Prop :=
  ∀ (x y : Int) (wx : World), Below w0.heap.size w0 wx → 0 ≤ x → x ≤ 255 → 0 ≤ y → y ≤ 255 →
    Calls Try.prog F (#[.int .i64 x, .int .i64 y] ++ caps) wx fun e w' => e = .returned (.int .i64 (φ x y)) ∧ Below wx.heap.size wx w'

set_option maxHeartbeats 400000 in
theorem P_Over1 (m u v W b s : Int) (au av am aw : Nat) (w : World) (hu0 : 0 ≤ u) (hu1 : u ≤ 255) (hv0 : 0 ≤ v) (hv1 : v ≤ 255) (hb0 : 0 ≤ b) (hb1 : b ≤ 255) (hs0 : 0 ≤ s) (hs1 : s ≤ 255)
    (hW0 : W = overW u v) (hW1 : 1 ≤ W) (lu : au < w.heap.size) (lv : av < w.heap.size) (lm : am < w.heap.size) (lw : aw < w.heap.size)
    (cu : w.cell? ⟨au, 0, none⟩ = some (.int .i64 u)) (cv : w.cell? ⟨av, 0, none⟩ = some (.int .i64 v)) (cm : w.cell? ⟨am, 0, none⟩ = some (.int .i64 m)) (cw : w.cell? ⟨aw, 0, none⟩ = some (.int .i64 W)) :
    Calls Try.prog 47 #[.int .i64 b, .int .i64 s, .pointer (some ⟨au, 0, none⟩), .pointer (some ⟨av, 0, none⟩), .pointer (some ⟨am, 0, none⟩), .pointer (some ⟨aw, 0, none⟩)] w
      fun e w' => e = .returned (.int .i64 (overC m u v b s)) ∧ Below w.heap.size w w' := by
  have hx := blendI_bd m b s
  have w1 : 0 ≤ u * (255 - v) := Int.mul_nonneg hu0 (by omega)
  have w2 : 0 ≤ u * v := Int.mul_nonneg hu0 hv0
  have w3 : 0 ≤ (255 - u) * v := Int.mul_nonneg (by omega) hv0
  have a1 := Int.mul_nonneg w1 hs0
  have a2 := Int.mul_nonneg w2 hx.1
  have a3 := Int.mul_nonneg w3 hb0
  have d1 := Int.mul_le_mul_of_nonneg_left hs1 w1
  have d2 := Int.mul_le_mul_of_nonneg_left hx.2 w2
  have d3 := Int.mul_le_mul_of_nonneg_left hb1 w3
  have e := overW_eq u v
  have k := overW_bd hu0 hu1 hv0 hv1
  have hfin : roundI (u * (255 - v) * s + u * v * blendI m b s + (255 - u) * v * b) W = overC m u v b s := by rw [hW0]; rfl
  have Hfin := Lib.hid hfin
  have k2 : W ≤ 65025 := by omega
  have k3 : u * (255 - v) ≤ 65025 := by omega
  have k4 : u * v ≤ 65025 := by omega
  have k5 : (255 - u) * v ≤ 65025 := by omega
  clear hfin e hW0
  go_enter Try.func47, Try.ntmps47
  go_wp2
  refine wp_region_ov (by kernel_rfl) (by kernel_rfl) ?_
  repeat (go_big_quiet_step ((first | (go_at_call 48; exact calls_ov (P_Blend _ _ _ _)) | (go_at_call 46; exact calls_ov_same (P_round _ _ _ (by omega) (by omega) (by omega) (by omega))))))
  refine wpQuiet_nil ?_
  intro w1 hb1
  obtain ⟨hc1, hf1⟩ := bcell hb1
  have hs1 := hb1.size
  try simp only [World.size_alloc, World.size_setCell, World.size_drew] at hs1
  have hbb1 := hb1.mono (B' := w.heap.size) (by first | omega | (simp only [World.size_alloc, World.size_setCell, World.size_drew]; omega))
  go_wp2
  go_ret
  exact ⟨ret_int Hfin.out, hb1⟩


set_option maxHeartbeats 400000 in
/-- The closure of 'channels': the function of two bytes made of a function of two ints. -/
theorem P_chan1 (x y z : Int) (F a : Nat) (caps : Array Value) (w : World) (hx0 : 0 ≤ x) (hx1 : x ≤ 255) (hy0 : 0 ≤ y) (hy1 : y ≤ 255) (hz0 : 0 ≤ z) (hz1 : z ≤ 255)
    (hcf : ∀ (args : Array Value) (wx : World), (callFunc F args).run Try.prog wx = .ok (.enter F args) wx)
    (hF : Calls Try.prog F (#[.int .i64 x, .int .i64 y] ++ caps) w fun e w' => e = .returned (.int .i64 z) ∧ Below w.heap.size w w')
    (hc : w.cell? ⟨a, 0, none⟩ = some (.func (.func F) #[] caps)) :
    Calls Try.prog 56 #[.int .u8 x, .int .u8 y, .pointer (some ⟨a, 0, none⟩)] w fun e w' => e = .returned (.int .u8 z) ∧ Below w.heap.size w w' := by
  have HF := Lib.hid hF
  clear hF
  go_enter Try.func56, Try.ntmps56
  go_wp2_with (first | (refine HF.out.mono ?_; rintro e w1 ⟨rfl, hb1⟩))
  go_ret
  exact ⟨rfl, hb1⟩

end Go.Proofs.Ytelfkakaaobfcaa
