/-
  No cell of these rows narrows 'for every input' (looked for: loops, veiled, ifaces, maps, wideKeys, modest, calm, conditions, laid).
  DERIVED. THE GIVEN ROWS OF THIS SEAT. 7 by the template 'for every input the law returns true; each argument reads behind the call as it read before'; 0 by the template 'total and deterministic' (their statements: YtamgpfblhlfhaaaTotals.lean).
  GIVEN WITH THE SEED: the statements are not yours to turn. If you find one false, say at which input.
  Laid BY PROGRAM, IN A SANDBOX (cutbox-rows.mjs): the forced cells as the released guide's own fill.sh prints them over the translation ccd728488df24552… (all of the seat's roots in one cut). By AI agents, Wed Nov 11 2026. No macro, syntax, notation, axiom, sorry.
-/
import Derived.Test.YtamgpfblhlfhaaaChecked
import GoSem.Claim
import GoSem.ClaimJoined
import GoSem.ClaimMapViews
import Derived.JoinedTies
import Derived.KernelRfl
namespace Go.Proofs.Ytamgpfblhlfhaaa
/- THE CELL 'sum', in the pinned program and in every row, IS THE sha256 OF THE DUMP (.gsa) THAT YtamgpfblhlfhaaaProg.lean LOADS. Nothing in Lean hashes anything: it is a label: what it is worth is what the hold of that sum in a sandbox is worth. -/
noncomputable def Try.pinned : Pinned := { name := "ytamgpfblhlfhaaa", sum := "ccd728488df24552b9cdb7df604ec79083f351479488eacf283967a7d0a83a50", checked := Try.checked }
namespace Rows
def none {H : Type} : Left H := { results := [], args := [] }

/-- 'gouachelaw15.SelectionCovers': WHATEVER THE INPUT: true; the input reads as it did. -/
def selectionCoversSpec : ChangeSpec := { name := "selectionCovers", fn := fun _ => fun
  | [d1, d2, d3] => { results := [.lit (.bool true)], args := [d1, d2, d3] }
  | _ => none }
def selectionCoversRow : OpenClaim := { program := "ytamgpfblhlfhaaa", sum := "ccd728488df24552b9cdb7df604ec79083f351479488eacf283967a7d0a83a50", func := "gouache/gouachelaw15.SelectionCovers", spec := "selectionCovers", unfollowed := true, recurses := true, plainKeys := false, apart := false }
def SelectionCoversSaid : Prop := selectionCoversRow.holds Try.pinned (OpenSpec.ofChange selectionCoversSpec)

/-- ITS FALSE NEIGHBOUR: 'it returns false'. Refute it at one input. -/
def selectionCoversWrong : ChangeSpec := { name := "selectionCovers", fn := fun _ => fun
  | [d1, d2, d3] => { results := [.lit (.bool false)], args := [d1, d2, d3] }
  | _ => none }
def SelectionCoversWrongFalsely : Prop := selectionCoversRow.holds Try.pinned (OpenSpec.ofChange selectionCoversWrong)

/-- 'gouachelaw15.SelectionOutlines': WHATEVER THE INPUT: true; the input reads as it did. -/
def selectionOutlinesSpec : ChangeSpec := { name := "selectionOutlines", fn := fun _ => fun
  | [d1, d2] => { results := [.lit (.bool true)], args := [d1, d2] }
  | _ => none }
def selectionOutlinesRow : OpenClaim := { program := "ytamgpfblhlfhaaa", sum := "ccd728488df24552b9cdb7df604ec79083f351479488eacf283967a7d0a83a50", func := "gouache/gouachelaw15.SelectionOutlines", spec := "selectionOutlines", unfollowed := true, recurses := true, plainKeys := false, apart := false }
def SelectionOutlinesSaid : Prop := selectionOutlinesRow.holds Try.pinned (OpenSpec.ofChange selectionOutlinesSpec)

/-- ITS FALSE NEIGHBOUR: 'it returns false'. Refute it at one input. -/
def selectionOutlinesWrong : ChangeSpec := { name := "selectionOutlines", fn := fun _ => fun
  | [d1, d2] => { results := [.lit (.bool false)], args := [d1, d2] }
  | _ => none }
def SelectionOutlinesWrongFalsely : Prop := selectionOutlinesRow.holds Try.pinned (OpenSpec.ofChange selectionOutlinesWrong)

/-- 'gouachelaw15.SelectionShifts': WHATEVER THE INPUT: true; the input reads as it did. -/
def selectionShiftsSpec : ChangeSpec := { name := "selectionShifts", fn := fun _ => fun
  | [d1, d2] => { results := [.lit (.bool true)], args := [d1, d2] }
  | _ => none }
def selectionShiftsRow : OpenClaim := { program := "ytamgpfblhlfhaaa", sum := "ccd728488df24552b9cdb7df604ec79083f351479488eacf283967a7d0a83a50", func := "gouache/gouachelaw15.SelectionShifts", spec := "selectionShifts", unfollowed := true, recurses := true, plainKeys := false, apart := false }
def SelectionShiftsSaid : Prop := selectionShiftsRow.holds Try.pinned (OpenSpec.ofChange selectionShiftsSpec)

/-- ITS FALSE NEIGHBOUR: 'it returns false'. Refute it at one input. -/
def selectionShiftsWrong : ChangeSpec := { name := "selectionShifts", fn := fun _ => fun
  | [d1, d2] => { results := [.lit (.bool false)], args := [d1, d2] }
  | _ => none }
def SelectionShiftsWrongFalsely : Prop := selectionShiftsRow.holds Try.pinned (OpenSpec.ofChange selectionShiftsWrong)

/-- 'gouachelaw15.SelectionInverts': WHATEVER THE INPUT: true; the input reads as it did. -/
def selectionInvertsSpec : ChangeSpec := { name := "selectionInverts", fn := fun _ => fun
  | [d1, d2, d3] => { results := [.lit (.bool true)], args := [d1, d2, d3] }
  | _ => none }
def selectionInvertsRow : OpenClaim := { program := "ytamgpfblhlfhaaa", sum := "ccd728488df24552b9cdb7df604ec79083f351479488eacf283967a7d0a83a50", func := "gouache/gouachelaw15.SelectionInverts", spec := "selectionInverts", unfollowed := true, recurses := true, plainKeys := false, apart := false }
def SelectionInvertsSaid : Prop := selectionInvertsRow.holds Try.pinned (OpenSpec.ofChange selectionInvertsSpec)

/-- ITS FALSE NEIGHBOUR: 'it returns false'. Refute it at one input. -/
def selectionInvertsWrong : ChangeSpec := { name := "selectionInverts", fn := fun _ => fun
  | [d1, d2, d3] => { results := [.lit (.bool false)], args := [d1, d2, d3] }
  | _ => none }
def SelectionInvertsWrongFalsely : Prop := selectionInvertsRow.holds Try.pinned (OpenSpec.ofChange selectionInvertsWrong)

/-- 'gouachelaw15.SelectionRects': WHATEVER THE INPUT: true; the input reads as it did. -/
def selectionRectsSpec : ChangeSpec := { name := "selectionRects", fn := fun _ => fun
  | [d1, d2] => { results := [.lit (.bool true)], args := [d1, d2] }
  | _ => none }
def selectionRectsRow : OpenClaim := { program := "ytamgpfblhlfhaaa", sum := "ccd728488df24552b9cdb7df604ec79083f351479488eacf283967a7d0a83a50", func := "gouache/gouachelaw15.SelectionRects", spec := "selectionRects", unfollowed := true, recurses := true, plainKeys := false, apart := false }
def SelectionRectsSaid : Prop := selectionRectsRow.holds Try.pinned (OpenSpec.ofChange selectionRectsSpec)

/-- ITS FALSE NEIGHBOUR: 'it returns false'. Refute it at one input. -/
def selectionRectsWrong : ChangeSpec := { name := "selectionRects", fn := fun _ => fun
  | [d1, d2] => { results := [.lit (.bool false)], args := [d1, d2] }
  | _ => none }
def SelectionRectsWrongFalsely : Prop := selectionRectsRow.holds Try.pinned (OpenSpec.ofChange selectionRectsWrong)

/-- 'gouachelaw15.SelectionComplements': WHATEVER THE INPUT: true; the input reads as it did. -/
def selectionComplementsSpec : ChangeSpec := { name := "selectionComplements", fn := fun _ => fun
  | [d1, d2] => { results := [.lit (.bool true)], args := [d1, d2] }
  | _ => none }
def selectionComplementsRow : OpenClaim := { program := "ytamgpfblhlfhaaa", sum := "ccd728488df24552b9cdb7df604ec79083f351479488eacf283967a7d0a83a50", func := "gouache/gouachelaw15.SelectionComplements", spec := "selectionComplements", unfollowed := true, recurses := true, plainKeys := false, apart := false }
def SelectionComplementsSaid : Prop := selectionComplementsRow.holds Try.pinned (OpenSpec.ofChange selectionComplementsSpec)

/-- ITS FALSE NEIGHBOUR: 'it returns false'. Refute it at one input. -/
def selectionComplementsWrong : ChangeSpec := { name := "selectionComplements", fn := fun _ => fun
  | [d1, d2] => { results := [.lit (.bool false)], args := [d1, d2] }
  | _ => none }
def SelectionComplementsWrongFalsely : Prop := selectionComplementsRow.holds Try.pinned (OpenSpec.ofChange selectionComplementsWrong)

/-- 'gouachelaw15.SelectionBack': WHATEVER THE INPUT: true; the input reads as it did. -/
def selectionBackSpec : ChangeSpec := { name := "selectionBack", fn := fun _ => fun
  | [d1, d2, d3] => { results := [.lit (.bool true)], args := [d1, d2, d3] }
  | _ => none }
def selectionBackRow : OpenClaim := { program := "ytamgpfblhlfhaaa", sum := "ccd728488df24552b9cdb7df604ec79083f351479488eacf283967a7d0a83a50", func := "gouache/gouachelaw15.SelectionBack", spec := "selectionBack", unfollowed := true, recurses := true, plainKeys := false, apart := false }
def SelectionBackSaid : Prop := selectionBackRow.holds Try.pinned (OpenSpec.ofChange selectionBackSpec)

/-- ITS FALSE NEIGHBOUR: 'it returns false'. Refute it at one input. -/
def selectionBackWrong : ChangeSpec := { name := "selectionBack", fn := fun _ => fun
  | [d1, d2, d3] => { results := [.lit (.bool false)], args := [d1, d2, d3] }
  | _ => none }
def SelectionBackWrongFalsely : Prop := selectionBackRow.holds Try.pinned (OpenSpec.ofChange selectionBackWrong)

/- THE SECOND FORM. 'bulk': how many values and letters a reading holds, each counted each time it is reached (what is shared counts as often as it is met; a slice's spare places count too). A statement '..UptoSaid' is the law's where the arguments, and the package variables that the reading takes, are together of bulk at most 1048576: NARROWER than '..Said'. Prove '..Said' where nothing that the law and all that it calls make is longer than what came in: it says more and counts as full. Else prove '..UptoSaid'. A law counts once. -/
mutual
def uptoBulk {H : Type} : DataW H → Nat
  | .lit (.string bytes) => bytes.length + 1
  | .lit _ => 1
  | .nil => 1
  | .ptr d => uptoBulk d + 1
  | .slice elems spare => uptoBulkAll elems + uptoBulkAll spare + 1
  | .agg parts => uptoBulkAll parts + 1
  | .iface _ d => uptoBulk d + 1
  | .map entries => uptoBulkEntries entries + 1
  | .held _ => 1
def uptoBulkAll {H : Type} : List (DataW H) → Nat
  | [] => 0
  | d :: r => uptoBulk d + uptoBulkAll r
def uptoBulkEntries {H : Type} : List (Lit × DataW H) → Nat
  | [] => 0
  | x :: r => uptoBulkEntry x + uptoBulkEntries r
def uptoBulkEntry {H : Type} : Lit × DataW H → Nat
  | (.string bytes, d) => bytes.length + uptoBulk d + 1
  | (_, d) => uptoBulk d + 1
 end
def uptoSmall : (H : Type) → List (DataW H) → Bool := fun _ ds => decide (uptoBulkAll ds ≤ 1048576)
def OpenSpec.upto (s : _root_.Go.ChangeSpec) : _root_.Go.OpenSpec := { _root_.Go.OpenSpec.ofChange s with cond := some uptoSmall }

/-- 'gouachelaw15.SelectionCovers', WHERE WHAT IT READS IS OF BULK AT MOST 1048576: true; the input reads as it did. -/
def selectionCoversUptoRow : OpenClaim := { program := "ytamgpfblhlfhaaa", sum := "ccd728488df24552b9cdb7df604ec79083f351479488eacf283967a7d0a83a50", func := "gouache/gouachelaw15.SelectionCovers", spec := "selectionCovers", unfollowed := true, recurses := true, plainKeys := false, apart := false, narrowed := true }
def SelectionCoversUptoSaid : Prop := selectionCoversUptoRow.holds Try.pinned (OpenSpec.upto selectionCoversSpec)

/-- 'gouachelaw15.SelectionOutlines', WHERE WHAT IT READS IS OF BULK AT MOST 1048576: true; the input reads as it did. -/
def selectionOutlinesUptoRow : OpenClaim := { program := "ytamgpfblhlfhaaa", sum := "ccd728488df24552b9cdb7df604ec79083f351479488eacf283967a7d0a83a50", func := "gouache/gouachelaw15.SelectionOutlines", spec := "selectionOutlines", unfollowed := true, recurses := true, plainKeys := false, apart := false, narrowed := true }
def SelectionOutlinesUptoSaid : Prop := selectionOutlinesUptoRow.holds Try.pinned (OpenSpec.upto selectionOutlinesSpec)

/-- 'gouachelaw15.SelectionShifts', WHERE WHAT IT READS IS OF BULK AT MOST 1048576: true; the input reads as it did. -/
def selectionShiftsUptoRow : OpenClaim := { program := "ytamgpfblhlfhaaa", sum := "ccd728488df24552b9cdb7df604ec79083f351479488eacf283967a7d0a83a50", func := "gouache/gouachelaw15.SelectionShifts", spec := "selectionShifts", unfollowed := true, recurses := true, plainKeys := false, apart := false, narrowed := true }
def SelectionShiftsUptoSaid : Prop := selectionShiftsUptoRow.holds Try.pinned (OpenSpec.upto selectionShiftsSpec)

/-- 'gouachelaw15.SelectionInverts', WHERE WHAT IT READS IS OF BULK AT MOST 1048576: true; the input reads as it did. -/
def selectionInvertsUptoRow : OpenClaim := { program := "ytamgpfblhlfhaaa", sum := "ccd728488df24552b9cdb7df604ec79083f351479488eacf283967a7d0a83a50", func := "gouache/gouachelaw15.SelectionInverts", spec := "selectionInverts", unfollowed := true, recurses := true, plainKeys := false, apart := false, narrowed := true }
def SelectionInvertsUptoSaid : Prop := selectionInvertsUptoRow.holds Try.pinned (OpenSpec.upto selectionInvertsSpec)

/-- 'gouachelaw15.SelectionRects', WHERE WHAT IT READS IS OF BULK AT MOST 1048576: true; the input reads as it did. -/
def selectionRectsUptoRow : OpenClaim := { program := "ytamgpfblhlfhaaa", sum := "ccd728488df24552b9cdb7df604ec79083f351479488eacf283967a7d0a83a50", func := "gouache/gouachelaw15.SelectionRects", spec := "selectionRects", unfollowed := true, recurses := true, plainKeys := false, apart := false, narrowed := true }
def SelectionRectsUptoSaid : Prop := selectionRectsUptoRow.holds Try.pinned (OpenSpec.upto selectionRectsSpec)

/-- 'gouachelaw15.SelectionComplements', WHERE WHAT IT READS IS OF BULK AT MOST 1048576: true; the input reads as it did. -/
def selectionComplementsUptoRow : OpenClaim := { program := "ytamgpfblhlfhaaa", sum := "ccd728488df24552b9cdb7df604ec79083f351479488eacf283967a7d0a83a50", func := "gouache/gouachelaw15.SelectionComplements", spec := "selectionComplements", unfollowed := true, recurses := true, plainKeys := false, apart := false, narrowed := true }
def SelectionComplementsUptoSaid : Prop := selectionComplementsUptoRow.holds Try.pinned (OpenSpec.upto selectionComplementsSpec)

/-- 'gouachelaw15.SelectionBack', WHERE WHAT IT READS IS OF BULK AT MOST 1048576: true; the input reads as it did. -/
def selectionBackUptoRow : OpenClaim := { program := "ytamgpfblhlfhaaa", sum := "ccd728488df24552b9cdb7df604ec79083f351479488eacf283967a7d0a83a50", func := "gouache/gouachelaw15.SelectionBack", spec := "selectionBack", unfollowed := true, recurses := true, plainKeys := false, apart := false, narrowed := true }
def SelectionBackUptoSaid : Prop := selectionBackUptoRow.holds Try.pinned (OpenSpec.upto selectionBackSpec)

end Rows
end Go.Proofs.Ytamgpfblhlfhaaa
