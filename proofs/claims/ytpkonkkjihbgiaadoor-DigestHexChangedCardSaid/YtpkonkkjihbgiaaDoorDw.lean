/- What the two listed tables give the walks, and the contracts of what the digest laws share. -/
import Derived.Test.YtpkonkkjihbgiaaDoorDv
import Derived.Test.YtpkonkkjihbgiaaDoorTie
import Derived.Test.YtpkonkkjihbgiaaDoorCards
import Derived.ProofKit
import Derived.OpenShut
import Derived.ShutString
import Derived.LaidMore
import Derived.Stop.Joined
import Derived.Stop.LaidErr
import Derived.Lib.LaidTab
import Derived.Lib.SmallJoins
import Derived.SevenTiedAt
namespace Go.Proofs.YtpkonkkjihbgiaaDoor
open Go.ChangeShapes Go.WideShapes Go.ChangeAt Go.RowKit Sha
set_option linter.unusedVariables false
set_option linter.unusedSimpArgs false

theorem own : ownKnob Tryd.prog.godebug = none := by kernel_rfl
theorem laidOut : laidOutB Tryd.prog = true := by kernel_rfl
def laidD : List (String × DataW Unit) := [("gouache/digest.round", Rows.laid_gouache_digest_round), ("gouache/digest.start", Rows.laid_gouache_digest_start)]
theorem door_met (os : Os) (args : Array Value) : laidMetH Tryd.prog laidD ((World.doorLaid Tryd.prog 400 os).forCall (fun _ _ => 0) ⟨#[], args, []⟩).memory :=
  laidMetH_of_parts3 (fuel := 8) (laidMet_of_run' 8 (by kernel_rfl) (by kernel_rfl)) (by kernel_rfl) (by kernel_rfl)
def kInts : List Int := kList.map Int.ofNat
def sInts : List Int := [1779033703, 3144134277, 1013904242, 2773480762, 1359893119, 2600822924, 528734635, 1541459225]
theorem gRound : Tryd.prog.globalNamed "gouache/digest.round" = some 1 := by kernel_rfl
theorem gStart : Tryd.prog.globalNamed "gouache/digest.start" = some 0 := by kernel_rfl
theorem kInts_at : ∀ i, i < 64 → (Value.int .u32 (kInts.getD i 0)) = U (kW i) := by
  have h : ∀ i ∈ List.range 64, kInts.getD i 0 = ((kW i).toNat : Int) := by decide +kernel
  intro i hi
  rw [h i (List.mem_range.2 hi)]
  rfl
theorem sInts_at : ∀ i, i < 8 → (Value.int .u32 (sInts.getD i 0)) = U (Sha.start.at i) := by
  have h : ∀ i ∈ List.range 8, sInts.getD i 0 = ((Sha.start.at i).toNat : Int) := by decide +kernel
  intro i hi
  rw [h i (List.mem_range.2 hi)]
  rfl
theorem gat_of_tab {W : World} {name : String} {g n : Nat} {zs : List Int} {f : Nat → W32} (h : Lib.TabIs Tryd.prog W name .u32 zs) (hg : Tryd.prog.globalNamed name = some g) (hn : zs.length = n) (h0 : 0 < n) (hf : ∀ i, i < n → Value.int .u32 (zs.getD i 0) = U (f i)) : GAt g n W f := by
  have hc : ∀ i, i < n → W.cell? ⟨g, i, none⟩ = some (U (f i)) := fun i hi => by
    rw [h.cell hg i (by omega), hf i hi]
  refine ⟨?_, hc⟩
  have := hc 0 h0
  rcases Nat.lt_or_ge g W.heap.size with k | k
  · exact k
  · unfold World.cell? at this
    rw [Array.getElem?_eq_none k] at this
    cases this
/-- WHAT THE CONDITION GIVES THE WALKS. -/
theorem of_laid {W : World} (h : laidMetH Tryd.prog laidD W) : GAt 0 8 W Sha.start.at ∧ GAt 1 64 W kW := by
  rw [MakeChecks.laidMetH_plain _ _ _ (by kernel_rfl)] at h
  have h1 : laidMet Tryd.prog (("gouache/digest.round", Lib.tabData .u32 kInts) :: [("gouache/digest.start", Rows.laid_gouache_digest_start)]) W := h
  have h2 : laidMet Tryd.prog (("gouache/digest.start", Lib.tabData .u32 sInts) :: []) W := laidMet.tail h
  have t1 := Lib.tabIs_of_head gRound (by kernel_rfl) Tryd.underlying61 Tryd.underlying50 (by kernel_rfl) (by kernel_rfl) h1
  have t2 := Lib.tabIs_of_head gStart (by kernel_rfl) Tryd.underlying51 Tryd.underlying50 (by kernel_rfl) (by kernel_rfl) h2
  exact ⟨gat_of_tab t2 gStart rfl (by omega) sInts_at, gat_of_tab t1 gRound rfl (by omega) kInts_at⟩

theorem L_some (s : ByteArray) (n : Nat) (w : World) (hs : s.size ≤ maxLen) (hn : n ≤ 1000) : Calls Tryd.prog 14 #[.string s, .int .i64 n] w fun e w' => e = .returned (.string (s.extract 0 (min s.size n))) ∧ w = w' := by
  unfold maxLen at hs
  go_enter Tryd.func14, Tryd.ntmps14
  go_wp2
  go_ret
  refine ⟨?_, rfl⟩
  have e : (min (s.size : Int) (n : Int)).toNat = min s.size n := by omega
  have e2 : (if (s.size : Int) ≤ (n : Int) then (s.size : Int) else (n : Int)).toNat = min s.size n := by split <;> omega
  simp
  first
    | rw [e]
    | rw [e2]
end Go.Proofs.YtpkonkkjihbgiaaDoor
