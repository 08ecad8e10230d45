/- Contracts of Flip, Turn, inside, Get, Set, Fill of package tile. -/
import Derived.Test.YtelfkakaaobfcaaDoorTs
namespace Go.Proofs.YtelfkakaaobfcaaDoor
open Go.RowKit Pl
set_option linter.unusedVariables false
set_option linter.unusedSimpArgs false
set_option maxRecDepth 20000

theorem tile_congr {f g : Nat → Px} (h : ∀ i, i < 64 → f i = g i) : Tile.v f = Tile.v g := by unfold Tile.v; rw [tileC_congr h]
def flipT (t : Nat → Px) : Nat → Px := fun j => t (8 * (j / 8) + (7 - j % 8))
def turnT (t : Nat → Px) : Nat → Px := fun j => t (8 * (7 - j % 8) + j / 8)

theorem cf_Flip1 (args : Array Value) (w : World) : (callFunc 30 args).run Tryd.prog w = .ok (.enter 30 args) w := by kernel_rfl
theorem P_Flip1 (i : Fin 64) (w : World) : Calls Tryd.prog 30 (posV i) w fun e w' => e = .returned (.tuple #[.int .i64 (7 - (i.val : Int) % 8), .int .i64 ((i.val : Int) / 8)]) ∧ w = w' := by
  have h := i.isLt
  have h1 : 0 ≤ (i.val : Int) % 8 := by omega
  have h2 : (i.val : Int) % 8 < 8 := by omega
  have h3 : 0 ≤ (i.val : Int) / 8 := by omega
  have h4 : (i.val : Int) / 8 < 8 := by omega
  go_enter Tryd.func30, Tryd.ntmps30
  go_wp2
  go_ret2
  exact ⟨rfl, rfl⟩
theorem cf_Turn1 (args : Array Value) (w : World) : (callFunc 31 args).run Tryd.prog w = .ok (.enter 31 args) w := by kernel_rfl
theorem P_Turn1 (i : Fin 64) (w : World) : Calls Tryd.prog 31 (posV i) w fun e w' => e = .returned (.tuple #[.int .i64 ((i.val : Int) / 8), .int .i64 (7 - (i.val : Int) % 8)]) ∧ w = w' := by
  have h := i.isLt
  have h1 : 0 ≤ (i.val : Int) % 8 := by omega
  have h2 : (i.val : Int) % 8 < 8 := by omega
  have h3 : 0 ≤ (i.val : Int) / 8 := by omega
  have h4 : (i.val : Int) / 8 < 8 := by omega
  go_enter Tryd.func31, Tryd.ntmps31
  go_wp2
  go_ret2
  exact ⟨rfl, rfl⟩
theorem flip_all (t : Nat → Px) : Tile.v (part (fun i => t (8 * (i.val / 8) + (7 - i.val % 8))) (upto 64)) = Tile.v (flipT t) := by
  exact congrArg Value.agg (part_all (fun i : Fin 64 => t (8 * (i.val / 8) + (7 - i.val % 8))) (flipT t) (fun i => rfl))
theorem turn_all (t : Nat → Px) : Tile.v (part (fun i => t (8 * (7 - i.val % 8) + i.val / 8)) (upto 64)) = Tile.v (turnT t) := by
  exact congrArg Value.agg (part_all (fun i : Fin 64 => t (8 * (7 - i.val % 8) + i.val / 8)) (turnT t) (fun i => rfl))

set_option maxHeartbeats 1000000 in
set_option maxRecDepth 20000 in
theorem P_Flip (t : Nat → Px) (w : World) : Calls Tryd.prog 17 #[Tile.v t] w fun e w' => e = .returned (Tile.v (flipT t)) ∧ Below w.heap.size w w' := by
  rw [← flip_all]
  go_enter Tryd.func17, Tryd.ntmps17
  go_wp2_with (first | (refine wpList_boxT rfl _ rfl _ rfl ?_; intro w1 ht1 hb1 hz1; simp only [Act.put, List.setIfInBounds_toArray, List.set_cons_zero, List.set_cons_succ]) | (refine wpList_allocT rfl rfl ?_; intro w2 ht2 hb2 hz2; replace ht1 := ht1.of_eq (hb2.block _ (by omega)); rw [hz1] at ht2 hz2; simp only [Act.put, List.setIfInBounds_toArray, List.set_cons_zero, List.set_cons_succ]) | (refine wpList_loadT rfl _ rfl _ rfl ht1 ?_; simp only [Act.put, List.setIfInBounds_toArray, List.set_cons_zero, List.set_cons_succ]) | (go_at_call 29; refine (P_rearr t 30 (fun i => 7 - (i.val : Int) % 8) (fun i => (i.val : Int) / 8) (fun i => 8 * (i.val / 8) + (7 - i.val % 8)) _ cf_Flip1 (fun i wx => P_Flip1 i wx) (fun i => by have := i.isLt; omega) (fun i => by have := i.isLt; omega)).mono ?_; rintro e w3 ⟨rfl, hb3⟩; have hz3 := hb3.size; replace ht2 := ht2.of_eq (hb3.block _ (by omega))) | (refine wpList_storeT rfl _ _ rfl _ rfl _ rfl ht2 ?_; intro w4 ht4 hc4 hz4; simp only [Act.put, List.setIfInBounds_toArray, List.set_cons_zero, List.set_cons_succ]))
  refine bodyPost_ret (results_tile rfl _ _ (w.heap.size + 1) rfl ht4) rfl ?_
  refine ⟨rfl, ?_⟩
  exact Chg.below ((hb1.trans (hb2.mono (by omega))).trans (hb3.mono (by omega))) hc4 (by omega) (by omega)
set_option maxHeartbeats 1000000 in
set_option maxRecDepth 20000 in
theorem P_Turn (t : Nat → Px) (w : World) : Calls Tryd.prog 18 #[Tile.v t] w fun e w' => e = .returned (Tile.v (turnT t)) ∧ Below w.heap.size w w' := by
  rw [← turn_all]
  go_enter Tryd.func18, Tryd.ntmps18
  go_wp2_with (first | (refine wpList_boxT rfl _ rfl _ rfl ?_; intro w1 ht1 hb1 hz1; simp only [Act.put, List.setIfInBounds_toArray, List.set_cons_zero, List.set_cons_succ]) | (refine wpList_allocT rfl rfl ?_; intro w2 ht2 hb2 hz2; replace ht1 := ht1.of_eq (hb2.block _ (by omega)); rw [hz1] at ht2 hz2; simp only [Act.put, List.setIfInBounds_toArray, List.set_cons_zero, List.set_cons_succ]) | (refine wpList_loadT rfl _ rfl _ rfl ht1 ?_; simp only [Act.put, List.setIfInBounds_toArray, List.set_cons_zero, List.set_cons_succ]) | (go_at_call 29; refine (P_rearr t 31 (fun i => (i.val : Int) / 8) (fun i => 7 - (i.val : Int) % 8) (fun i => 8 * (7 - i.val % 8) + i.val / 8) _ cf_Turn1 (fun i wx => P_Turn1 i wx) (fun i => by have := i.isLt; omega) (fun i => by have := i.isLt; omega)).mono ?_; rintro e w3 ⟨rfl, hb3⟩; have hz3 := hb3.size; replace ht2 := ht2.of_eq (hb3.block _ (by omega))) | (refine wpList_storeT rfl _ _ rfl _ rfl _ rfl ht2 ?_; intro w4 ht4 hc4 hz4; simp only [Act.put, List.setIfInBounds_toArray, List.set_cons_zero, List.set_cons_succ]))
  refine bodyPost_ret (results_tile rfl _ _ (w.heap.size + 1) rfl ht4) rfl ?_
  refine ⟨rfl, ?_⟩
  exact Chg.below ((hb1.trans (hb2.mono (by omega))).trans (hb3.mono (by omega))) hc4 (by omega) (by omega)

end Go.Proofs.YtelfkakaaobfcaaDoor
