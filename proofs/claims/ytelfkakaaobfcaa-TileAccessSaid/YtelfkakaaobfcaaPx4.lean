/- Contracts of Blend of package pixel. -/
import Derived.Test.YtelfkakaaobfcaaPx3
import Derived.Deep.RegionWith
namespace Go.Proofs.Ytelfkakaaobfcaa
open Go.RowKit Pl
set_option linter.unusedVariables false
set_option linter.unusedSimpArgs false

theorem fns_index (b : Nat) (w : World) :
    (Instr.index 71 (fnsV b) (.int .i64 0)).run Try.prog w = .ok (.func (.func 63) #[] #[]) w
    ∧ (Instr.index 71 (fnsV b) (.int .i64 1)).run Try.prog w = .ok (.func (.func 44) #[] #[]) w
    ∧ (Instr.index 71 (fnsV b) (.int .i64 2)).run Try.prog w = .ok (.func (.func 64) #[] #[]) w
    ∧ (Instr.index 71 (fnsV b) (.int .i64 3)).run Try.prog w = .ok (.func (.func 65) #[] #[]) w
    ∧ (Instr.index 71 (fnsV b) (.int .i64 4)).run Try.prog w = .ok (.func (.func 67) #[] #[]) w
    ∧ (Instr.index 71 (fnsV b) (.int .i64 5)).run Try.prog w = .ok (.func (.func 68) #[] #[]) w
    ∧ (Instr.index 71 (fnsV b) (.int .i64 6)).run Try.prog w = .ok (.func (.func 69) #[] #[]) w
    ∧ (Instr.index 71 (fnsV b) (.int .i64 7)).run Try.prog w = .ok (.func (.func 70) #[] #[]) w
    ∧ (Instr.index 71 (fnsV b) (.int .i64 8)).run Try.prog w = .ok (.func (.func 66) #[] #[]) w
    ∧ (Instr.index 71 (fnsV b) (.int .i64 9)).run Try.prog w = .ok (.func (.func 71) #[] #[]) w
    ∧ (Instr.index 71 (fnsV b) (.int .i64 10)).run Try.prog w = .ok (.func (.func 62) #[] #[]) w
    ∧ (Instr.index 71 (fnsV b) (.int .i64 11)).run Try.prog w = .ok (.func (.func 72) #[] #[]) w
    ∧ (Instr.index 71 (fnsV b) (.int .i64 12)).run Try.prog w = .ok (.func (.func 73) #[] #[]) w
    ∧ (Instr.index 71 (fnsV b) (.int .i64 13)).run Try.prog w = .ok (.func (.func 74) #[] #[]) w
    ∧ (Instr.index 71 (fnsV b) (.int .i64 14)).run Try.prog w = .ok (.func (.func 75) #[] #[]) w
    ∧ (Instr.index 71 (fnsV b) (.int .i64 15)).run Try.prog w = .ok (.func (.func 76) #[] #[.pointer (some ⟨b, 0, none⟩)]) w
    := by
  refine ⟨?_, ?_, ?_, ?_, ?_, ?_, ?_, ?_, ?_, ?_, ?_, ?_, ?_, ?_, ?_, ?_⟩ <;> kernel_rfl

set_option maxHeartbeats 1000000 in
/-- All modes but the last: whatever function of no captured variables the table holds. -/
theorem P_Blend_at (m b s v : Int) (F : Nat) (w : World) (hm : ¬ m < 0) (hm' : m < 16)
    (hix : ∀ wx, (Instr.index 71 (fnsV (w.heap.size + 1)) (.int .i64 m)).run Try.prog wx = .ok (.func (.func F) #[] #[]) wx)
    (hcf : ∀ (args : Array Value) (wx : World), (callFunc F args).run Try.prog wx = .ok (.enter F args) wx)
    (hF : ∀ wx, Calls Try.prog F #[.int .i64 (clampI b), .int .i64 (clampI s)] wx fun e w' => e = .returned (.int .i64 v) ∧ wx = w') :
    Calls Try.prog 48 #[.int .i64 m, .int .i64 b, .int .i64 s] w fun e w' => e = .returned (.int .i64 v) ∧ Below w.heap.size w w' := by
  have h1 := clampI_bd b
  have h2 := clampI_bd s
  have HF := Lib.hid hF
  clear hF
  go_enter Try.func48, Try.ntmps48
  go_wp2
  go_region_with (first | (go_at_call 55; refine (P_clamp _ _).mono ?_; rintro e w' ⟨rfl, rfl⟩) | (go_at_call 57; refine (P_functions _).mono ?_; rintro e w1 ⟨rfl, hc1, hb1⟩) | (refine (HF.out _).mono ?_; rintro e w' ⟨rfl, rfl⟩))
  all_goals (go_wp2; go_ret; exact ⟨rfl, below_of_drew hb1⟩)

theorem P_Blend0 (b s : Int) (w : World) :
    Calls Try.prog 48 #[.int .i64 0, .int .i64 b, .int .i64 s] w fun e w' => e = .returned (.int .i64 (blendI 0 b s)) ∧ Below w.heap.size w w' := by
  have h1 := clampI_bd b
  have h2 := clampI_bd s
  exact P_Blend_at 0 b s _ 63 w (by omega) (by omega) (fun wx => (fns_index (w.heap.size + 1) wx).1) (fun _ _ => by kernel_rfl) (fun wx => P_mode0 _ _ _ (by omega) (by omega) (by omega) (by omega))
theorem P_Blend1 (b s : Int) (w : World) :
    Calls Try.prog 48 #[.int .i64 1, .int .i64 b, .int .i64 s] w fun e w' => e = .returned (.int .i64 (blendI 1 b s)) ∧ Below w.heap.size w w' := by
  have h1 := clampI_bd b
  have h2 := clampI_bd s
  exact P_Blend_at 1 b s _ 44 w (by omega) (by omega) (fun wx => (fns_index (w.heap.size + 1) wx).2.1) (fun _ _ => by kernel_rfl) (fun wx => P_Mul _ _ _)
theorem P_Blend2 (b s : Int) (w : World) :
    Calls Try.prog 48 #[.int .i64 2, .int .i64 b, .int .i64 s] w fun e w' => e = .returned (.int .i64 (blendI 2 b s)) ∧ Below w.heap.size w w' := by
  have h1 := clampI_bd b
  have h2 := clampI_bd s
  exact P_Blend_at 2 b s _ 64 w (by omega) (by omega) (fun wx => (fns_index (w.heap.size + 1) wx).2.2.1) (fun _ _ => by kernel_rfl) (fun wx => P_scr _ _ _ (by omega) (by omega) (by omega) (by omega))
theorem P_Blend3 (b s : Int) (w : World) :
    Calls Try.prog 48 #[.int .i64 3, .int .i64 b, .int .i64 s] w fun e w' => e = .returned (.int .i64 (blendI 3 b s)) ∧ Below w.heap.size w w' := by
  have h1 := clampI_bd b
  have h2 := clampI_bd s
  exact P_Blend_at 3 b s _ 65 w (by omega) (by omega) (fun wx => (fns_index (w.heap.size + 1) wx).2.2.2.1) (fun _ _ => by kernel_rfl) (fun wx => P_mode3 _ _ _ (by omega) (by omega) (by omega) (by omega))
theorem P_Blend4 (b s : Int) (w : World) :
    Calls Try.prog 48 #[.int .i64 4, .int .i64 b, .int .i64 s] w fun e w' => e = .returned (.int .i64 (blendI 4 b s)) ∧ Below w.heap.size w w' := by
  have h1 := clampI_bd b
  have h2 := clampI_bd s
  exact P_Blend_at 4 b s _ 67 w (by omega) (by omega) (fun wx => (fns_index (w.heap.size + 1) wx).2.2.2.2.1) (fun _ _ => by kernel_rfl) (fun wx => P_mode4 _ _ _ (by omega) (by omega) (by omega) (by omega))
theorem P_Blend5 (b s : Int) (w : World) :
    Calls Try.prog 48 #[.int .i64 5, .int .i64 b, .int .i64 s] w fun e w' => e = .returned (.int .i64 (blendI 5 b s)) ∧ Below w.heap.size w w' := by
  have h1 := clampI_bd b
  have h2 := clampI_bd s
  exact P_Blend_at 5 b s _ 68 w (by omega) (by omega) (fun wx => (fns_index (w.heap.size + 1) wx).2.2.2.2.2.1) (fun _ _ => by kernel_rfl) (fun wx => P_mode5 _ _ _ (by omega) (by omega) (by omega) (by omega))
theorem P_Blend6 (b s : Int) (w : World) :
    Calls Try.prog 48 #[.int .i64 6, .int .i64 b, .int .i64 s] w fun e w' => e = .returned (.int .i64 (blendI 6 b s)) ∧ Below w.heap.size w w' := by
  have h1 := clampI_bd b
  have h2 := clampI_bd s
  exact P_Blend_at 6 b s _ 69 w (by omega) (by omega) (fun wx => (fns_index (w.heap.size + 1) wx).2.2.2.2.2.2.1) (fun _ _ => by kernel_rfl) (fun wx => P_dodge _ _ _ (by omega) (by omega) (by omega) (by omega))
theorem P_Blend7 (b s : Int) (w : World) :
    Calls Try.prog 48 #[.int .i64 7, .int .i64 b, .int .i64 s] w fun e w' => e = .returned (.int .i64 (blendI 7 b s)) ∧ Below w.heap.size w w' := by
  have h1 := clampI_bd b
  have h2 := clampI_bd s
  exact P_Blend_at 7 b s _ 70 w (by omega) (by omega) (fun wx => (fns_index (w.heap.size + 1) wx).2.2.2.2.2.2.2.1) (fun _ _ => by kernel_rfl) (fun wx => P_burn _ _ _ (by omega) (by omega) (by omega) (by omega))
theorem P_Blend8 (b s : Int) (w : World) :
    Calls Try.prog 48 #[.int .i64 8, .int .i64 b, .int .i64 s] w fun e w' => e = .returned (.int .i64 (blendI 8 b s)) ∧ Below w.heap.size w w' := by
  have h1 := clampI_bd b
  have h2 := clampI_bd s
  exact P_Blend_at 8 b s _ 66 w (by omega) (by omega) (fun wx => (fns_index (w.heap.size + 1) wx).2.2.2.2.2.2.2.2.1) (fun _ _ => by kernel_rfl) (fun wx => P_hard _ _ _ (by omega) (by omega) (by omega) (by omega))
theorem P_Blend9 (b s : Int) (w : World) :
    Calls Try.prog 48 #[.int .i64 9, .int .i64 b, .int .i64 s] w fun e w' => e = .returned (.int .i64 (blendI 9 b s)) ∧ Below w.heap.size w w' := by
  have h1 := clampI_bd b
  have h2 := clampI_bd s
  exact P_Blend_at 9 b s _ 71 w (by omega) (by omega) (fun wx => (fns_index (w.heap.size + 1) wx).2.2.2.2.2.2.2.2.2.1) (fun _ _ => by kernel_rfl) (fun wx => P_mode9 _ _ _ (by omega) (by omega) (by omega) (by omega))
theorem P_Blend10 (b s : Int) (w : World) :
    Calls Try.prog 48 #[.int .i64 10, .int .i64 b, .int .i64 s] w fun e w' => e = .returned (.int .i64 (blendI 10 b s)) ∧ Below w.heap.size w w' := by
  have h1 := clampI_bd b
  have h2 := clampI_bd s
  exact P_Blend_at 10 b s _ 62 w (by omega) (by omega) (fun wx => (fns_index (w.heap.size + 1) wx).2.2.2.2.2.2.2.2.2.2.1) (fun _ _ => by kernel_rfl) (fun wx => P_dist _ _ _ (by omega) (by omega) (by omega) (by omega))
theorem P_Blend11 (b s : Int) (w : World) :
    Calls Try.prog 48 #[.int .i64 11, .int .i64 b, .int .i64 s] w fun e w' => e = .returned (.int .i64 (blendI 11 b s)) ∧ Below w.heap.size w w' := by
  have h1 := clampI_bd b
  have h2 := clampI_bd s
  exact P_Blend_at 11 b s _ 72 w (by omega) (by omega) (fun wx => (fns_index (w.heap.size + 1) wx).2.2.2.2.2.2.2.2.2.2.2.1) (fun _ _ => by kernel_rfl) (fun wx => P_mode11 _ _ _ (by omega) (by omega) (by omega) (by omega))
theorem P_Blend12 (b s : Int) (w : World) :
    Calls Try.prog 48 #[.int .i64 12, .int .i64 b, .int .i64 s] w fun e w' => e = .returned (.int .i64 (blendI 12 b s)) ∧ Below w.heap.size w w' := by
  have h1 := clampI_bd b
  have h2 := clampI_bd s
  exact P_Blend_at 12 b s _ 73 w (by omega) (by omega) (fun wx => (fns_index (w.heap.size + 1) wx).2.2.2.2.2.2.2.2.2.2.2.2.1) (fun _ _ => by kernel_rfl) (fun wx => P_mode12 _ _ _ (by omega) (by omega) (by omega) (by omega))
theorem P_Blend13 (b s : Int) (w : World) :
    Calls Try.prog 48 #[.int .i64 13, .int .i64 b, .int .i64 s] w fun e w' => e = .returned (.int .i64 (blendI 13 b s)) ∧ Below w.heap.size w w' := by
  have h1 := clampI_bd b
  have h2 := clampI_bd s
  exact P_Blend_at 13 b s _ 74 w (by omega) (by omega) (fun wx => (fns_index (w.heap.size + 1) wx).2.2.2.2.2.2.2.2.2.2.2.2.2.1) (fun _ _ => by kernel_rfl) (fun wx => P_mode13 _ _ _ (by omega) (by omega) (by omega) (by omega))
theorem P_Blend14 (b s : Int) (w : World) :
    Calls Try.prog 48 #[.int .i64 14, .int .i64 b, .int .i64 s] w fun e w' => e = .returned (.int .i64 (blendI 14 b s)) ∧ Below w.heap.size w w' := by
  have h1 := clampI_bd b
  have h2 := clampI_bd s
  exact P_Blend_at 14 b s _ 75 w (by omega) (by omega) (fun wx => (fns_index (w.heap.size + 1) wx).2.2.2.2.2.2.2.2.2.2.2.2.2.2.1) (fun _ _ => by kernel_rfl) (fun wx => P_mode14 _ _ _ (by omega) (by omega) (by omega) (by omega))

set_option maxHeartbeats 400000 in
theorem P_Blend15 (b s : Int) (w : World) :
    Calls Try.prog 48 #[.int .i64 15, .int .i64 b, .int .i64 s] w fun e w' => e = .returned (.int .i64 (blendI 15 b s)) ∧ Below w.heap.size w w' := by
  have h1 := clampI_bd b
  have h2 := clampI_bd s
  have hix := fun wx => (fns_index (w.heap.size + 1) wx).2.2.2.2.2.2.2.2.2.2.2.2.2.2.2
  go_enter Try.func48, Try.ntmps48
  go_wp2
  go_region_with (first | (go_at_call 55; refine (P_clamp _ _).mono ?_; rintro e w' ⟨rfl, rfl⟩) | (go_at_call 57; refine (P_functions _).mono ?_; rintro e w1 ⟨rfl, hc1, hb1⟩) | (go_at_call 76; refine (P_mode15 _ _ _ _ (by omega) (by omega) (by omega) (by omega) (by assumption)).mono ?_; rintro e w' ⟨rfl, rfl⟩))
  all_goals (go_wp2; go_ret; exact ⟨rfl, below_of_drew hb1⟩)

set_option maxHeartbeats 1000000 in
theorem P_Blend_out1 (m b s : Int) (w : World) (hm : m < 0) :
    Calls Try.prog 48 #[.int .i64 m, .int .i64 b, .int .i64 s] w fun e w' => e = .returned (.int .i64 (blendI m b s)) ∧ Below w.heap.size w w' := by
  have h1 := clampI_bd b
  have h2 := clampI_bd s
  have e1 : blendI m b s = clampI s := by
    unfold blendI modeI
    repeat (rw [if_neg (by omega)])
  rw [e1]; clear e1
  have hix := fun wx => (fns_index (w.heap.size + 1) wx).1
  have hF : ∀ wx, Calls Try.prog 63 #[.int .i64 (clampI b), .int .i64 (clampI s)] wx fun e w' => e = .returned (.int .i64 (clampI s)) ∧ wx = w' := fun wx => P_mode0 _ _ _ (by omega) (by omega) (by omega) (by omega)
  have HF := Lib.hid hF
  clear hF
  go_enter Try.func48, Try.ntmps48
  go_wp2
  go_region_with (first | (go_at_call 55; refine (P_clamp _ _).mono ?_; rintro e w' ⟨rfl, rfl⟩) | (go_at_call 57; refine (P_functions _).mono ?_; rintro e w1 ⟨rfl, hc1, hb1⟩) | (refine (HF.out _).mono ?_; rintro e w' ⟨rfl, rfl⟩))
  all_goals (go_wp2; go_ret; exact ⟨rfl, below_of_drew hb1⟩)
set_option maxHeartbeats 1000000 in
theorem P_Blend_out2 (m b s : Int) (w : World) (hm : 16 ≤ m) :
    Calls Try.prog 48 #[.int .i64 m, .int .i64 b, .int .i64 s] w fun e w' => e = .returned (.int .i64 (blendI m b s)) ∧ Below w.heap.size w w' := by
  have h1 := clampI_bd b
  have h2 := clampI_bd s
  have e1 : blendI m b s = clampI s := by
    unfold blendI modeI
    repeat (rw [if_neg (by omega)])
  rw [e1]; clear e1
  have hix := fun wx => (fns_index (w.heap.size + 1) wx).1
  have hF : ∀ wx, Calls Try.prog 63 #[.int .i64 (clampI b), .int .i64 (clampI s)] wx fun e w' => e = .returned (.int .i64 (clampI s)) ∧ wx = w' := fun wx => P_mode0 _ _ _ (by omega) (by omega) (by omega) (by omega)
  have HF := Lib.hid hF
  clear hF
  have hm2 : ¬ m < 0 := by omega
  go_enter Try.func48, Try.ntmps48
  go_wp2
  go_region_with (first | (go_at_call 55; refine (P_clamp _ _).mono ?_; rintro e w' ⟨rfl, rfl⟩) | (go_at_call 57; refine (P_functions _).mono ?_; rintro e w1 ⟨rfl, hc1, hb1⟩) | (refine (HF.out _).mono ?_; rintro e w' ⟨rfl, rfl⟩))
  all_goals (go_wp2; go_ret; exact ⟨rfl, below_of_drew hb1⟩)

theorem P_Blend (m b s : Int) (w : World) :
    Calls Try.prog 48 #[.int .i64 m, .int .i64 b, .int .i64 s] w fun e w' => e = .returned (.int .i64 (blendI m b s)) ∧ Below w.heap.size w w' := by
  by_cases hm : m < 0 ∨ 16 ≤ m
  · rcases hm with hm | hm
    · exact P_Blend_out1 m b s w hm
    · exact P_Blend_out2 m b s w hm
  · have hc : m = 0 ∨ m = 1 ∨ m = 2 ∨ m = 3 ∨ m = 4 ∨ m = 5 ∨ m = 6 ∨ m = 7 ∨ m = 8 ∨ m = 9 ∨ m = 10 ∨ m = 11 ∨ m = 12 ∨ m = 13 ∨ m = 14 ∨ m = 15 := by omega
    rcases hc with rfl | rfl | rfl | rfl | rfl | rfl | rfl | rfl | rfl | rfl | rfl | rfl | rfl | rfl | rfl | rfl
    · exact P_Blend0 b s w
    · exact P_Blend1 b s w
    · exact P_Blend2 b s w
    · exact P_Blend3 b s w
    · exact P_Blend4 b s w
    · exact P_Blend5 b s w
    · exact P_Blend6 b s w
    · exact P_Blend7 b s w
    · exact P_Blend8 b s w
    · exact P_Blend9 b s w
    · exact P_Blend10 b s w
    · exact P_Blend11 b s w
    · exact P_Blend12 b s w
    · exact P_Blend13 b s w
    · exact P_Blend14 b s w
    · exact P_Blend15 b s w

end Go.Proofs.Ytelfkakaaobfcaa
