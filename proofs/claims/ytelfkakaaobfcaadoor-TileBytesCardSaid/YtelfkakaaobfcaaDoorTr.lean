/- The iterator over the positions of a tile, and 'rearrange'. -/
import Derived.RangeFuncNested
import Derived.RangeFuncBound
import Derived.RangeFuncCalls
import Derived.RangeFuncLeaves
import Derived.RangeFuncFrom
import Derived.OwnWalkIn
import Derived.TacticsInMore
import Derived.LoopNIn
import Derived.LoopIn
import Derived.Test.YtelfkakaaobfcaaDoorTa
namespace Go.Proofs.YtelfkakaaobfcaaDoor
open Go.RowKit Pl
attribute [local go_sem] Oper.semAt_some
set_option linter.unusedVariables false
set_option linter.unusedSimpArgs false
set_option maxRecDepth 20000

/-- Position number i: column and row. -/
abbrev posV (i : Fin 64) : Array Value := #[.int .i64 ((i.val : Int) % 8), .int .i64 ((i.val : Int) / 8)]
/-- The first k positions. -/
def upto (k : Nat) : List (Fin 64) := (List.finRange 64).take k
theorem upto_succ (k : Nat) (h : k < 64) : upto (k + 1) = upto k ++ [⟨k, h⟩] := by
  unfold upto
  rw [List.take_succ_eq_append_getElem (by simp; omega)]
  simp
theorem upto_length (k : Nat) (h : k ≤ 64) : (upto k).length = k := by unfold upto; simp; omega

set_option maxHeartbeats 1000000 in
theorem pos_stops (F : Fence) (n : Nat) (hf : F.fn 43) (hro : F.round = none) (hn : 1 ≤ n) (w : World) :
    SeqStopsA F n Tryd.prog 43 #[] posV (fun xs => xs = upto 64) (fun _ => True) 64 w := fun l J Jx W _ _ _ hY h0 => by
  refine callsIn_of_wp Tryd.func43 rfl hf ?_ hro
  simp only [Tryd.ntmps43, List.size_toArray, List.length_cons, List.length_nil, Nat.reduceAdd, Nat.reduceSub, Array.replicate_succ, Array.replicate_zero, List.push_toArray, List.append_toArray, List.nil_append, List.cons_append]
  gi_wp2
  gi_loopw [2, 3] (fun _ i wr => ∃ k : Nat, k ≤ 64 ∧ i = .int .i64 k ∧ J (upto k) wr) (fun _ i _ => (64 - intOf i).toNat)
  case atStart => exact ⟨0, by omega, rfl, h0⟩
  case round =>
    obtain ⟨k, hk, rfl, hJ⟩ := hrel
    by_cases hlt : k < 64
    · obtain ⟨fn, tmps, assign, body, hy, hR⟩ := hY (upto k) ⟨k, hlt⟩ wr hJ (by rw [upto_length k (by omega)]; omega)
      dsimp only [posV] at hy
      rw [← upto_succ k hlt] at hR
      gi_wp2
      refine hR.mono ?_
      rintro e W1 (⟨rfl, hJ1, _⟩ | ⟨rfl, hx1⟩)
      · gi_wp2
        go_roundw
        case rel => exact ⟨k + 1, by omega, by go_num, hJ1⟩
        case measure => simp [intOf]; omega
      · gi_wp2
        refine bodyPost_ret (results_none rfl _ _ _) rfl ?_
        exact ⟨⟨_, rfl⟩, .inr ⟨_, trivial, hx1⟩⟩
    · obtain rfl : k = 64 := by omega
      gi_wp2
      go_end0
      exact ⟨⟨_, rfl⟩, .inl ⟨_, rfl, hJ⟩⟩

end Go.Proofs.YtelfkakaaobfcaaDoor
