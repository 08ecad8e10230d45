/-
  No cell of these rows narrows 'for every input' (looked for: loops, veiled, ifaces, maps, wideKeys, modest, calm, conditions, laid).
  DERIVED. THE GIVEN ROWS OF THIS SEAT. 3 by the template 'for every input the law returns true; each argument reads behind the call as it read before'; 0 by the template 'total and deterministic' (their statements: YtamgpfblhlfhaaaGreatTotals.lean).
  GIVEN WITH THE SEED: the statements are not yours to turn. If you find one false, say at which input.
  Laid BY PROGRAM, IN A SANDBOX (cutbox-rows.mjs): the forced cells as the released guide's own fill.sh prints them over the translation e7ae186c37eba6f4… (all of the seat's roots in one cut). By AI agents, Wed Nov 11 2026. No macro, syntax, notation, axiom, sorry.
-/
import Derived.Test.YtamgpfblhlfhaaaGreatChecked
import GoSem.Claim
import GoSem.ClaimJoined
import GoSem.ClaimMapViews
import Derived.JoinedTies
import Derived.KernelRfl
namespace Go.Proofs.YtamgpfblhlfhaaaGreat
/- THE CELL 'sum', in the pinned program and in every row, IS THE sha256 OF THE DUMP (.gsa) THAT YtamgpfblhlfhaaaGreatProg.lean LOADS. Nothing in Lean hashes anything: it is a label: what it is worth is what the hold of that sum in a sandbox is worth. -/
noncomputable def Tryz.pinned : Pinned := { name := "ytamgpfblhlfhaaagreat", sum := "e7ae186c37eba6f41c9266c129853811cc51acca16fdfeaaa30d1325fcece2a7", checked := Tryz.checked }
namespace Rows
def none {H : Type} : Left H := { results := [], args := [] }

/-- 'gouachelaw15.SelectionFills': WHATEVER THE INPUT: true; the input reads as it did. -/
def selectionFillsSpec : ChangeSpec := { name := "selectionFills", fn := fun _ => fun
  | [d1, d2, d3] => { results := [.lit (.bool true)], args := [d1, d2, d3] }
  | _ => none }
def selectionFillsRow : OpenClaim := { program := "ytamgpfblhlfhaaagreat", sum := "e7ae186c37eba6f41c9266c129853811cc51acca16fdfeaaa30d1325fcece2a7", func := "gouache/gouachelaw15.SelectionFills", spec := "selectionFills", unfollowed := true, recurses := true, plainKeys := false, apart := false }
def SelectionFillsSaid : Prop := selectionFillsRow.holds Tryz.pinned (OpenSpec.ofChange selectionFillsSpec)

/-- ITS FALSE NEIGHBOUR: 'it returns false'. Refute it at one input. -/
def selectionFillsWrong : ChangeSpec := { name := "selectionFills", fn := fun _ => fun
  | [d1, d2, d3] => { results := [.lit (.bool false)], args := [d1, d2, d3] }
  | _ => none }
def SelectionFillsWrongFalsely : Prop := selectionFillsRow.holds Tryz.pinned (OpenSpec.ofChange selectionFillsWrong)

/-- 'gouachelaw15.SelectionCombines': WHATEVER THE INPUT: true; the input reads as it did. -/
def selectionCombinesSpec : ChangeSpec := { name := "selectionCombines", fn := fun _ => fun
  | [d1, d2, d3] => { results := [.lit (.bool true)], args := [d1, d2, d3] }
  | _ => none }
def selectionCombinesRow : OpenClaim := { program := "ytamgpfblhlfhaaagreat", sum := "e7ae186c37eba6f41c9266c129853811cc51acca16fdfeaaa30d1325fcece2a7", func := "gouache/gouachelaw15.SelectionCombines", spec := "selectionCombines", unfollowed := true, recurses := true, plainKeys := false, apart := false }
def SelectionCombinesSaid : Prop := selectionCombinesRow.holds Tryz.pinned (OpenSpec.ofChange selectionCombinesSpec)

/-- ITS FALSE NEIGHBOUR: 'it returns false'. Refute it at one input. -/
def selectionCombinesWrong : ChangeSpec := { name := "selectionCombines", fn := fun _ => fun
  | [d1, d2, d3] => { results := [.lit (.bool false)], args := [d1, d2, d3] }
  | _ => none }
def SelectionCombinesWrongFalsely : Prop := selectionCombinesRow.holds Tryz.pinned (OpenSpec.ofChange selectionCombinesWrong)

/-- 'gouachelaw15.SelectionLaws': WHATEVER THE INPUT: true; the input reads as it did. -/
def selectionLawsSpec : ChangeSpec := { name := "selectionLaws", fn := fun _ => fun
  | [d] => { results := [.lit (.bool true)], args := [d] }
  | _ => none }
def selectionLawsRow : OpenClaim := { program := "ytamgpfblhlfhaaagreat", sum := "e7ae186c37eba6f41c9266c129853811cc51acca16fdfeaaa30d1325fcece2a7", func := "gouache/gouachelaw15.SelectionLaws", spec := "selectionLaws", unfollowed := true, recurses := true, plainKeys := false, apart := false }
def SelectionLawsSaid : Prop := selectionLawsRow.holds Tryz.pinned (OpenSpec.ofChange selectionLawsSpec)

/-- ITS FALSE NEIGHBOUR: 'it returns false'. Refute it at one input. -/
def selectionLawsWrong : ChangeSpec := { name := "selectionLaws", fn := fun _ => fun
  | [d] => { results := [.lit (.bool false)], args := [d] }
  | _ => none }
def SelectionLawsWrongFalsely : Prop := selectionLawsRow.holds Tryz.pinned (OpenSpec.ofChange selectionLawsWrong)

/- THE SECOND FORM. 'bulk': how many values and letters a reading holds, each counted each time it is reached (what is shared counts as often as it is met; a slice's spare places count too). A statement '..UptoSaid' is the law's where the arguments, and the package variables that the reading takes, are together of bulk at most 1048576: NARROWER than '..Said'. Prove '..Said' where nothing that the law and all that it calls make is longer than what came in: it says more and counts as full. Else prove '..UptoSaid'. A law counts once. -/
mutual
def uptoBulk {H : Type} : DataW H → Nat
  | .lit (.string bytes) => bytes.length + 1
  | .lit _ => 1
  | .nil => 1
  | .ptr d => uptoBulk d + 1
  | .slice elems spare => uptoBulkAll elems + uptoBulkAll spare + 1
  | .agg parts => uptoBulkAll parts + 1
  | .iface _ d => uptoBulk d + 1
  | .map entries => uptoBulkEntries entries + 1
  | .held _ => 1
def uptoBulkAll {H : Type} : List (DataW H) → Nat
  | [] => 0
  | d :: r => uptoBulk d + uptoBulkAll r
def uptoBulkEntries {H : Type} : List (Lit × DataW H) → Nat
  | [] => 0
  | x :: r => uptoBulkEntry x + uptoBulkEntries r
def uptoBulkEntry {H : Type} : Lit × DataW H → Nat
  | (.string bytes, d) => bytes.length + uptoBulk d + 1
  | (_, d) => uptoBulk d + 1
 end
def uptoSmall : (H : Type) → List (DataW H) → Bool := fun _ ds => decide (uptoBulkAll ds ≤ 1048576)
def OpenSpec.upto (s : _root_.Go.ChangeSpec) : _root_.Go.OpenSpec := { _root_.Go.OpenSpec.ofChange s with cond := some uptoSmall }

/-- 'gouachelaw15.SelectionFills', WHERE WHAT IT READS IS OF BULK AT MOST 1048576: true; the input reads as it did. -/
def selectionFillsUptoRow : OpenClaim := { program := "ytamgpfblhlfhaaagreat", sum := "e7ae186c37eba6f41c9266c129853811cc51acca16fdfeaaa30d1325fcece2a7", func := "gouache/gouachelaw15.SelectionFills", spec := "selectionFills", unfollowed := true, recurses := true, plainKeys := false, apart := false, narrowed := true }
def SelectionFillsUptoSaid : Prop := selectionFillsUptoRow.holds Tryz.pinned (OpenSpec.upto selectionFillsSpec)

/-- 'gouachelaw15.SelectionCombines', WHERE WHAT IT READS IS OF BULK AT MOST 1048576: true; the input reads as it did. -/
def selectionCombinesUptoRow : OpenClaim := { program := "ytamgpfblhlfhaaagreat", sum := "e7ae186c37eba6f41c9266c129853811cc51acca16fdfeaaa30d1325fcece2a7", func := "gouache/gouachelaw15.SelectionCombines", spec := "selectionCombines", unfollowed := true, recurses := true, plainKeys := false, apart := false, narrowed := true }
def SelectionCombinesUptoSaid : Prop := selectionCombinesUptoRow.holds Tryz.pinned (OpenSpec.upto selectionCombinesSpec)

/-- 'gouachelaw15.SelectionLaws', WHERE WHAT IT READS IS OF BULK AT MOST 1048576: true; the input reads as it did. -/
def selectionLawsUptoRow : OpenClaim := { program := "ytamgpfblhlfhaaagreat", sum := "e7ae186c37eba6f41c9266c129853811cc51acca16fdfeaaa30d1325fcece2a7", func := "gouache/gouachelaw15.SelectionLaws", spec := "selectionLaws", unfollowed := true, recurses := true, plainKeys := false, apart := false, narrowed := true }
def SelectionLawsUptoSaid : Prop := selectionLawsUptoRow.holds Tryz.pinned (OpenSpec.upto selectionLawsSpec)

end Rows
end Go.Proofs.YtamgpfblhlfhaaaGreat
