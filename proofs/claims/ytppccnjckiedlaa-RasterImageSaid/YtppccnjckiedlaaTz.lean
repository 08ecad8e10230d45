/- Contracts of Zero, Solid, and of the reference's Flip and Turn. -/
import Derived.Test.YtppccnjckiedlaaTy
namespace Go.Proofs.Ytppccnjckiedlaa
open Go.RowKit Pl
set_option linter.unusedVariables false
set_option linter.unusedSimpArgs false
set_option maxRecDepth 20000

/-- The pixels in d are those of g, the others those of f. -/
def mixT (d : Nat → Bool) (f g : Nat → Px) : Nat → Px := fun j => if d j = true then g j else f j
theorem mixT_next {d d' : Nat → Bool} {f g : Nat → Px} {i : Nat} {p : Px} (hp : p = g i) (h : ∀ j, j < 64 → d' j = (d j || decide (j = i))) : tileC (upd (mixT d f g) i p) = tileC (mixT d' f g) :=
  tileC_congr fun j hj => by
    unfold upd mixT
    rw [h j hj]
    by_cases e : j = i
    · subst e; simp [hp]
    · simp [e]
theorem mixT_all {d : Nat → Bool} {f g : Nat → Px} (h : ∀ j, j < 64 → d j = true) : tileC (mixT d f g) = tileC g := tileC_congr fun j hj => by unfold mixT; rw [if_pos (h j hj)]
theorem mixT_none {d : Nat → Bool} {f g : Nat → Px} (h : ∀ j, j < 64 → d j = false) : tileC f = tileC (mixT d f g) := tileC_congr fun j hj => by unfold mixT; rw [if_neg (by rw [h j hj]; simp)]
theorem mixT_same {d d' : Nat → Bool} {f g : Nat → Px} (h : ∀ j, j < 64 → d j = d' j) : tileC (mixT d f g) = tileC (mixT d' f g) := tileC_congr fun j hj => by unfold mixT; rw [h j hj]
def doneFlip (y x j : Nat) : Bool := decide (j < 8 * y + x)
def doneTurn (y x j : Nat) : Bool := decide (7 - j % 8 < y ∨ (7 - j % 8 = y ∧ j / 8 < x))


def zeroB (t : Nat → Px) : Bool := decide (∀ i ∈ List.range 64, (t i).a = 0)
theorem zero_eq (t : Nat → Px) : eqT (cleanT t) (fun _ => Px.zero) = zeroB t := by
  unfold eqT zeroB
  rw [Bool.eq_iff_iff]
  simp only [decide_eq_true_eq]
  refine ⟨fun h i hi => ?_, fun h i hi => ?_⟩
  · have := h i hi
    unfold cleanT cleanP at this
    split at this
    · assumption
    · rw [this]; rfl
  · unfold cleanT cleanP
    rw [if_pos (h i hi)]
theorem eql_clean (t : Nat → Px) (w : World) : (binOp .eql 40 (Tile.v (cleanT t)) (Tile.v fun _ => Px.zero)).run Try.prog w = .ok (.bool (zeroB t)) w := by
  rw [eql_tile, zero_eq]

set_option maxHeartbeats 1000000 in
set_option maxRecDepth 20000 in
theorem P_Zero (t : Nat → Px) (w : World) (ht : Tok t) : Calls Try.prog 53 #[Tile.v t] w fun e w' => e = .returned (.bool (zeroB t)) ∧ Below w.heap.size w w' := by
  have hcmp := eql_clean t
  go_enter Try.func53, Try.ntmps53
  go_wp2_with (first | (go_at_call 54; refine (P_Clean_t _ _ ht).mono ?_; rintro e w2 ⟨rfl, hb2⟩; have hz2 := hb2.size; replace t1 := t1.of_eq (hb2.block _ t1.lt)) | (refine wpList_loadT rfl _ rfl _ rfl t1 ?_; simp only [Act.put, List.setIfInBounds_toArray, List.set_cons_zero, List.set_cons_succ]) | (refine wpList_buildT rfl rfl ?_; simp only [Act.put, List.setIfInBounds_toArray, List.set_cons_zero, List.set_cons_succ]) | (refine wpList_boxT rfl _ rfl _ rfl ?_; intro w1 t1 hb1 hz1; have l1 := Nat.lt_of_lt_of_eq (Nat.lt_succ_self _) hz1.symm; clear hz1; simp only [Act.put, List.setIfInBounds_toArray, List.set_cons_zero, List.set_cons_succ]))
  go_ret
  refine ⟨rfl, ?_⟩
  repeat' (first | (with_reducible exact Below.refl _ _) | (with_reducible assumption) | (with_reducible refine Below.trans ?_ (hb1.mono (by omega))) | (with_reducible refine Below.trans ?_ (hb2.mono (by omega))))

set_option maxHeartbeats 1000000 in
set_option maxRecDepth 20000 in
theorem R_Zero (t : Nat → Px) (w : World) : Calls Try.prog 56 #[Tile.v t] w fun e w' => e = .returned (.bool (zeroB t)) ∧ Below w.heap.size w w' := by
  go_enter Try.func56, Try.ntmps56
  go_wp2_with (first | (refine wpList_boxT rfl _ rfl _ rfl ?_; intro w1 t1 hb1 hz1; have l1 := Nat.lt_of_lt_of_eq (Nat.lt_succ_self _) hz1.symm; clear hz1; simp only [Act.put, List.setIfInBounds_toArray, List.set_cons_zero, List.set_cons_succ]))
  go_loopw [3] (fun i wr => ∃ k : Nat, k ≤ 64 ∧ i = .int .i64 k ∧ Below w.heap.size w wr ∧ w1.heap.size ≤ wr.heap.size ∧ TileAt wr w.heap.size t ∧ ∀ j, j < k → (t j).a = 0) (fun i _ => (64 - intOf i).toNat)
  case atStart => exact ⟨0, by omega, rfl, hb1, Nat.le_refl _, t1, fun j hj => by omega⟩
  case round =>
    obtain ⟨k, hk, rfl, Br, hr, t4, heq⟩ := hrel
    have Heq := Lib.hid heq
    clear t1 heq
    by_cases hlt : k < 64
    · obtain ⟨c0, c1, c2, c3⟩ := t4.cells hlt
      cases hne : ((t k).a == 0) with
      | true =>
        have Hne : Hid ((t k).a = 0) := Lib.hid (by simpa using hne)
        go_wp2
        go_roundw
        case rel => exact ⟨k + 1, by omega, by go_num, Br, hr, t4, fun j hj => by
          by_cases e : j = k
          · rw [e]; exact Hne.out
          · exact Heq.out j (by omega)⟩
        case measure => simp [intOf]; omega
      | false =>
        have e1 : Hid (zeroB t = false) := Lib.hid (by unfold zeroB; exact decide_eq_false fun e => by simp [e k (List.mem_range.2 hlt)] at hne)
        go_wp2
        go_ret
        exact ⟨by rw [e1.out]; rfl, Br⟩
    · obtain rfl : k = 64 := by omega
      have e1 : Hid (zeroB t = true) := Lib.hid (by unfold zeroB; exact decide_eq_true fun i hi => Heq.out i (List.mem_range.1 hi))
      go_wp2
      go_ret
      exact ⟨by rw [e1.out]; rfl, Br⟩

def solidB (t : Nat → Px) : Bool := eqT t (fillT (t 0))
def solidP (t : Nat → Px) : Px := if solidB t = true then t 0 else Px.zero
theorem PixAt.cells {w : World} {b : Nat} {p : Px} (h : PixAt w b p) : w.cell? ⟨b, 0, none⟩ = some (.int .u8 p.r) ∧ w.cell? ⟨b, 1, none⟩ = some (.int .u8 p.g) ∧ w.cell? ⟨b, 2, none⟩ = some (.int .u8 p.b) ∧ w.cell? ⟨b, 3, none⟩ = some (.int .u8 p.a) := by
  obtain ⟨hc, _⟩ := cells_of_block h
  exact ⟨hc 0, hc 1, hc 2, hc 3⟩
end Go.Proofs.Ytppccnjckiedlaa
