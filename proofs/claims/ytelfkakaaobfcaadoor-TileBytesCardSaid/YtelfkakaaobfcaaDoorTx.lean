/- Contracts of Fill and Clean of package tile and of the reference. -/
import Derived.Test.YtelfkakaaobfcaaDoorTv
namespace Go.Proofs.YtelfkakaaobfcaaDoor
open Go.RowKit Pl
set_option linter.unusedVariables false
set_option linter.unusedSimpArgs false
set_option maxRecDepth 20000

def fillT (p : Px) : Nat → Px := fun _ => p
def cleanT (t : Nat → Px) : Nat → Px := fun i => cleanP (t i)
def zeroT : Nat → Px := fun _ => Px.zero

set_option maxHeartbeats 1000000 in
set_option maxRecDepth 20000 in
theorem P_Fill (p : Px) (w : World) : Calls Tryd.prog 14 #[Px.v p] w fun e w' => e = .returned (Tile.v (fillT p)) ∧ Below w.heap.size w w' := by
  go_enter Tryd.func14, Tryd.ntmps14
  go_wp2_with (first | (refine wpList_allocT rfl rfl ?_; intro w2 t2 hb2 hz2; have l2 := Nat.lt_of_lt_of_eq (Nat.lt_succ_self _) hz2.symm; clear hz2; replace t1 := t1.of_eq (hb2.block _ t1.lt); simp only [Act.put, List.setIfInBounds_toArray, List.set_cons_zero, List.set_cons_succ]) | (refine wpList_boxPx rfl _ rfl _ rfl ?_; intro w1 t1 hb1 hz1; have l1 := Nat.lt_of_lt_of_eq (Nat.lt_succ_self _) hz1.symm; clear hz1; simp only [Act.put, List.setIfInBounds_toArray, List.set_cons_zero, List.set_cons_succ]))
  have B2 : Below w.heap.size w w2 := by
    repeat' (first | (with_reducible exact Below.refl _ _) | (with_reducible assumption) | (with_reducible refine Below.trans ?_ (hb1.mono (by omega))) | (with_reducible refine Below.trans ?_ (hb2.mono (by omega))))
  go_loopw [3, 4] (fun _ i wr => ∃ k : Nat, k ≤ 64 ∧ i = .int .i64 k ∧ Below w.heap.size w wr ∧ w2.heap.size ≤ wr.heap.size ∧ PixAt wr w.heap.size p ∧ TileAt wr w1.heap.size (stepT zeroT (fillT p) k)) (fun _ i _ => (64 - intOf i).toNat)
  case atStart => exact ⟨0, by omega, rfl, B2, Nat.le_refl _, t1, by rw [stepT_zero]; exact t2⟩
  case round =>
    obtain ⟨k, hk, rfl, Br, hr, t3, t4⟩ := hrel
    clear t1 t2
    by_cases hlt : k < 64
    · go_wp2_with (first | (refine wpList_storeTp rfl _ _ rfl _ _ rfl _ rfl t4 (k) (by omega) (by first | rfl | omega) ?_; clear t4; intro w3 t4 hc3 hz3; replace hz3 := Nat.le_of_eq hz3.symm; replace t3 := t3.of_eq (hc3.block _ t3.lt (by omega)); simp only [Act.put, List.setIfInBounds_toArray, List.set_cons_zero, List.set_cons_succ]) | (refine wpList_loadPx rfl _ rfl _ rfl t3 ?_; simp only [Act.put, List.setIfInBounds_toArray, List.set_cons_zero, List.set_cons_succ]))
      go_roundw
      case rel => exact ⟨k + 1, by omega, by go_num, by repeat' (first | (with_reducible exact Below.refl _ _) | (with_reducible assumption) | (with_reducible refine Chg.below ?_ hc3 (by omega) (by omega))), by omega, t3, by rw [← stepT_next]; exact t4⟩
      case measure => simp [intOf]; omega
    · obtain rfl : k = 64 := by omega
      replace t4 := t4.congr (stepT_all _ _)
      go_wp2_with (first | (refine wpList_storeT rfl _ _ rfl _ rfl _ rfl t4 ?_; clear t4; intro w3 t4 hc3 hz3; replace hz3 := Nat.le_of_eq hz3.symm; simp only [Act.put, List.setIfInBounds_toArray, List.set_cons_zero, List.set_cons_succ]) | (refine wpList_loadT rfl _ rfl _ rfl t4 ?_; simp only [Act.put, List.setIfInBounds_toArray, List.set_cons_zero, List.set_cons_succ]))
      refine bodyPost_ret (results_tile rfl _ _ (w1.heap.size) rfl t4) rfl ?_
      refine ⟨rfl, ?_⟩
      repeat' (first | (with_reducible exact Below.refl _ _) | (with_reducible assumption) | (with_reducible refine Chg.below ?_ hc3 (by omega) (by omega)))

end Go.Proofs.YtelfkakaaobfcaaDoor
