/-
  NARROWER THAN 'FOR EVERY INPUT', by the rows' own cells (each row's printed sentence says how): StrokeDabs: laid · StrokeCount: laid · StrokeDisk: laid · StrokeSplit: laid · StrokeErase: laid · StrokeBytes: laid · StrokePaint: laid · StrokeShift: laid · StrokeHalves: laid · StrokeArea: laid.
  DERIVED. THE GIVEN ROWS OF THIS SEAT. 10 by the template 'for every input the law returns true; each argument reads behind the call as it read before'; 0 by the template 'total and deterministic' (their statements: YtepelndbbhdofaaGreatDoorTotals.lean).
  GIVEN WITH THE SEED: the statements are not yours to turn. If you find one false, say at which input.
  Laid BY PROGRAM, IN A SANDBOX (cutbox-rows.mjs): the forced cells as the released guide's own fill.sh prints them over the translation d277213be40cb20f… (all of the seat's roots in one cut). By AI agents, Wed Nov 11 2026. No macro, syntax, notation, axiom, sorry.
-/
import Derived.Test.YtepelndbbhdofaaGreatDoorChecked
import GoSem.Claim
import GoSem.ClaimJoined
import GoSem.ClaimMapViews
import Derived.JoinedTies
import Derived.KernelRfl
namespace Go.Proofs.YtepelndbbhdofaaGreatDoor
/- THE CELL 'sum', in the pinned program and in every row, IS THE sha256 OF THE DUMP (.gsa) THAT YtepelndbbhdofaaGreatDoorProg.lean LOADS. Nothing in Lean hashes anything: it is a label: what it is worth is what the hold of that sum in a sandbox is worth. -/
noncomputable def Tryz.pinned : Pinned := { name := "ytepelndbbhdofaagreatdoor", sum := "d277213be40cb20f9716b6487585848e8bb7d15ec58f5c7707c34bd45b44c611", checked := Tryz.checked }
namespace Rows
def none {H : Type} : Left H := { results := [], args := [] }

/- WHAT THE LISTED PACKAGE-LEVEL VARIABLES READ AS WHEN THE CALL BEGINS. Each datum BY PROGRAM (the guide's laid-datum.mjs) off the statement by which the dump's own 'gosem.cut.vars' lays the variable. In a bare row this is a premise. The card (YtepelndbbhdofaaGreatDoorCards.lean) ties it to the program's text. -/
def laid_gouache_stroke_limits {H : Type} : DataW H := .agg [.lit (.int .i64 (-65536)), .lit (.int .i64 (-65536)), .lit (.int .i64 65536), .lit (.int .i64 65536)]

/-- 'gouachelaw14.StrokeDabs': WHATEVER THE INPUT: true; the input reads as it did. -/
def strokeDabsSpec : ChangeSpec := { name := "strokeDabs", fn := fun _ => fun
  | [d] => { results := [.lit (.bool true)], args := [d] }
  | _ => none }
def strokeDabsRow : OpenClaim := { program := "ytepelndbbhdofaagreatdoor", sum := "d277213be40cb20f9716b6487585848e8bb7d15ec58f5c7707c34bd45b44c611", func := "gouache/gouachelaw14.StrokeDabs", spec := "strokeDabs", inPlace := ["internal/abi.NoEscape"], unfollowed := true, recurses := true, named := ["gouache/stroke.limits"], apart := false, laid := [("gouache/stroke.limits", laid_gouache_stroke_limits)] }
def StrokeDabsSaid : Prop := strokeDabsRow.holds Tryz.pinned (OpenSpec.ofChange strokeDabsSpec)

/-- ITS FALSE NEIGHBOUR: 'it returns false'. Refute it at one input. -/
def strokeDabsWrong : ChangeSpec := { name := "strokeDabs", fn := fun _ => fun
  | [d] => { results := [.lit (.bool false)], args := [d] }
  | _ => none }
def StrokeDabsWrongFalsely : Prop := strokeDabsRow.holds Tryz.pinned (OpenSpec.ofChange strokeDabsWrong)

/-- 'gouachelaw14.StrokeCount': WHATEVER THE INPUT: true; the input reads as it did. -/
def strokeCountSpec : ChangeSpec := { name := "strokeCount", fn := fun _ => fun
  | [d] => { results := [.lit (.bool true)], args := [d] }
  | _ => none }
def strokeCountRow : OpenClaim := { program := "ytepelndbbhdofaagreatdoor", sum := "d277213be40cb20f9716b6487585848e8bb7d15ec58f5c7707c34bd45b44c611", func := "gouache/gouachelaw14.StrokeCount", spec := "strokeCount", inPlace := ["internal/abi.NoEscape"], unfollowed := true, recurses := true, named := ["gouache/stroke.limits"], apart := false, laid := [("gouache/stroke.limits", laid_gouache_stroke_limits)] }
def StrokeCountSaid : Prop := strokeCountRow.holds Tryz.pinned (OpenSpec.ofChange strokeCountSpec)

/-- ITS FALSE NEIGHBOUR: 'it returns false'. Refute it at one input. -/
def strokeCountWrong : ChangeSpec := { name := "strokeCount", fn := fun _ => fun
  | [d] => { results := [.lit (.bool false)], args := [d] }
  | _ => none }
def StrokeCountWrongFalsely : Prop := strokeCountRow.holds Tryz.pinned (OpenSpec.ofChange strokeCountWrong)

/-- 'gouachelaw14.StrokeDisk': WHATEVER THE INPUT: true; the input reads as it did. -/
def strokeDiskSpec : ChangeSpec := { name := "strokeDisk", fn := fun _ => fun
  | [d1, d2, d3] => { results := [.lit (.bool true)], args := [d1, d2, d3] }
  | _ => none }
def strokeDiskRow : OpenClaim := { program := "ytepelndbbhdofaagreatdoor", sum := "d277213be40cb20f9716b6487585848e8bb7d15ec58f5c7707c34bd45b44c611", func := "gouache/gouachelaw14.StrokeDisk", spec := "strokeDisk", inPlace := ["internal/abi.NoEscape"], unfollowed := true, recurses := true, named := ["gouache/stroke.limits"], apart := false, laid := [("gouache/stroke.limits", laid_gouache_stroke_limits)] }
def StrokeDiskSaid : Prop := strokeDiskRow.holds Tryz.pinned (OpenSpec.ofChange strokeDiskSpec)

/-- ITS FALSE NEIGHBOUR: 'it returns false'. Refute it at one input. -/
def strokeDiskWrong : ChangeSpec := { name := "strokeDisk", fn := fun _ => fun
  | [d1, d2, d3] => { results := [.lit (.bool false)], args := [d1, d2, d3] }
  | _ => none }
def StrokeDiskWrongFalsely : Prop := strokeDiskRow.holds Tryz.pinned (OpenSpec.ofChange strokeDiskWrong)

/-- 'gouachelaw14.StrokeSplit': WHATEVER THE INPUT: true; the input reads as it did. -/
def strokeSplitSpec : ChangeSpec := { name := "strokeSplit", fn := fun _ => fun
  | [d1, d2] => { results := [.lit (.bool true)], args := [d1, d2] }
  | _ => none }
def strokeSplitRow : OpenClaim := { program := "ytepelndbbhdofaagreatdoor", sum := "d277213be40cb20f9716b6487585848e8bb7d15ec58f5c7707c34bd45b44c611", func := "gouache/gouachelaw14.StrokeSplit", spec := "strokeSplit", inPlace := ["internal/abi.NoEscape"], unfollowed := true, recurses := true, named := ["gouache/stroke.limits"], apart := false, laid := [("gouache/stroke.limits", laid_gouache_stroke_limits)] }
def StrokeSplitSaid : Prop := strokeSplitRow.holds Tryz.pinned (OpenSpec.ofChange strokeSplitSpec)

/-- ITS FALSE NEIGHBOUR: 'it returns false'. Refute it at one input. -/
def strokeSplitWrong : ChangeSpec := { name := "strokeSplit", fn := fun _ => fun
  | [d1, d2] => { results := [.lit (.bool false)], args := [d1, d2] }
  | _ => none }
def StrokeSplitWrongFalsely : Prop := strokeSplitRow.holds Tryz.pinned (OpenSpec.ofChange strokeSplitWrong)

/-- 'gouachelaw14.StrokeErase': WHATEVER THE INPUT: true; the input reads as it did. -/
def strokeEraseSpec : ChangeSpec := { name := "strokeErase", fn := fun _ => fun
  | [d1, d2, d3] => { results := [.lit (.bool true)], args := [d1, d2, d3] }
  | _ => none }
def strokeEraseRow : OpenClaim := { program := "ytepelndbbhdofaagreatdoor", sum := "d277213be40cb20f9716b6487585848e8bb7d15ec58f5c7707c34bd45b44c611", func := "gouache/gouachelaw14.StrokeErase", spec := "strokeErase", inPlace := ["internal/abi.NoEscape"], unfollowed := true, recurses := true, named := ["gouache/stroke.limits"], apart := false, laid := [("gouache/stroke.limits", laid_gouache_stroke_limits)] }
def StrokeEraseSaid : Prop := strokeEraseRow.holds Tryz.pinned (OpenSpec.ofChange strokeEraseSpec)

/-- ITS FALSE NEIGHBOUR: 'it returns false'. Refute it at one input. -/
def strokeEraseWrong : ChangeSpec := { name := "strokeErase", fn := fun _ => fun
  | [d1, d2, d3] => { results := [.lit (.bool false)], args := [d1, d2, d3] }
  | _ => none }
def StrokeEraseWrongFalsely : Prop := strokeEraseRow.holds Tryz.pinned (OpenSpec.ofChange strokeEraseWrong)

/-- 'gouachelaw14.StrokeBytes': WHATEVER THE INPUT: true; the input reads as it did. -/
def strokeBytesSpec : ChangeSpec := { name := "strokeBytes", fn := fun _ => fun
  | [d1, d2, d3] => { results := [.lit (.bool true)], args := [d1, d2, d3] }
  | _ => none }
def strokeBytesRow : OpenClaim := { program := "ytepelndbbhdofaagreatdoor", sum := "d277213be40cb20f9716b6487585848e8bb7d15ec58f5c7707c34bd45b44c611", func := "gouache/gouachelaw14.StrokeBytes", spec := "strokeBytes", inPlace := ["internal/abi.NoEscape"], unfollowed := true, recurses := true, named := ["gouache/stroke.limits"], apart := false, laid := [("gouache/stroke.limits", laid_gouache_stroke_limits)] }
def StrokeBytesSaid : Prop := strokeBytesRow.holds Tryz.pinned (OpenSpec.ofChange strokeBytesSpec)

/-- ITS FALSE NEIGHBOUR: 'it returns false'. Refute it at one input. -/
def strokeBytesWrong : ChangeSpec := { name := "strokeBytes", fn := fun _ => fun
  | [d1, d2, d3] => { results := [.lit (.bool false)], args := [d1, d2, d3] }
  | _ => none }
def StrokeBytesWrongFalsely : Prop := strokeBytesRow.holds Tryz.pinned (OpenSpec.ofChange strokeBytesWrong)

/-- 'gouachelaw14.StrokePaint': WHATEVER THE INPUT: true; the input reads as it did. -/
def strokePaintSpec : ChangeSpec := { name := "strokePaint", fn := fun _ => fun
  | [d1, d2, d3] => { results := [.lit (.bool true)], args := [d1, d2, d3] }
  | _ => none }
def strokePaintRow : OpenClaim := { program := "ytepelndbbhdofaagreatdoor", sum := "d277213be40cb20f9716b6487585848e8bb7d15ec58f5c7707c34bd45b44c611", func := "gouache/gouachelaw14.StrokePaint", spec := "strokePaint", inPlace := ["internal/abi.NoEscape"], unfollowed := true, recurses := true, named := ["gouache/stroke.limits"], apart := false, laid := [("gouache/stroke.limits", laid_gouache_stroke_limits)] }
def StrokePaintSaid : Prop := strokePaintRow.holds Tryz.pinned (OpenSpec.ofChange strokePaintSpec)

/-- ITS FALSE NEIGHBOUR: 'it returns false'. Refute it at one input. -/
def strokePaintWrong : ChangeSpec := { name := "strokePaint", fn := fun _ => fun
  | [d1, d2, d3] => { results := [.lit (.bool false)], args := [d1, d2, d3] }
  | _ => none }
def StrokePaintWrongFalsely : Prop := strokePaintRow.holds Tryz.pinned (OpenSpec.ofChange strokePaintWrong)

/-- 'gouachelaw14.StrokeShift': WHATEVER THE INPUT: true; the input reads as it did. -/
def strokeShiftSpec : ChangeSpec := { name := "strokeShift", fn := fun _ => fun
  | [d1, d2, d3] => { results := [.lit (.bool true)], args := [d1, d2, d3] }
  | _ => none }
def strokeShiftRow : OpenClaim := { program := "ytepelndbbhdofaagreatdoor", sum := "d277213be40cb20f9716b6487585848e8bb7d15ec58f5c7707c34bd45b44c611", func := "gouache/gouachelaw14.StrokeShift", spec := "strokeShift", inPlace := ["internal/abi.NoEscape"], unfollowed := true, recurses := true, named := ["gouache/stroke.limits"], apart := false, laid := [("gouache/stroke.limits", laid_gouache_stroke_limits)] }
def StrokeShiftSaid : Prop := strokeShiftRow.holds Tryz.pinned (OpenSpec.ofChange strokeShiftSpec)

/-- ITS FALSE NEIGHBOUR: 'it returns false'. Refute it at one input. -/
def strokeShiftWrong : ChangeSpec := { name := "strokeShift", fn := fun _ => fun
  | [d1, d2, d3] => { results := [.lit (.bool false)], args := [d1, d2, d3] }
  | _ => none }
def StrokeShiftWrongFalsely : Prop := strokeShiftRow.holds Tryz.pinned (OpenSpec.ofChange strokeShiftWrong)

/-- 'gouachelaw14.StrokeHalves': WHATEVER THE INPUT: true; the input reads as it did. -/
def strokeHalvesSpec : ChangeSpec := { name := "strokeHalves", fn := fun _ => fun
  | [d1, d2, d3] => { results := [.lit (.bool true)], args := [d1, d2, d3] }
  | _ => none }
def strokeHalvesRow : OpenClaim := { program := "ytepelndbbhdofaagreatdoor", sum := "d277213be40cb20f9716b6487585848e8bb7d15ec58f5c7707c34bd45b44c611", func := "gouache/gouachelaw14.StrokeHalves", spec := "strokeHalves", inPlace := ["internal/abi.NoEscape"], unfollowed := true, recurses := true, named := ["gouache/stroke.limits"], apart := false, laid := [("gouache/stroke.limits", laid_gouache_stroke_limits)] }
def StrokeHalvesSaid : Prop := strokeHalvesRow.holds Tryz.pinned (OpenSpec.ofChange strokeHalvesSpec)

/-- ITS FALSE NEIGHBOUR: 'it returns false'. Refute it at one input. -/
def strokeHalvesWrong : ChangeSpec := { name := "strokeHalves", fn := fun _ => fun
  | [d1, d2, d3] => { results := [.lit (.bool false)], args := [d1, d2, d3] }
  | _ => none }
def StrokeHalvesWrongFalsely : Prop := strokeHalvesRow.holds Tryz.pinned (OpenSpec.ofChange strokeHalvesWrong)

/-- 'gouachelaw14.StrokeArea': WHATEVER THE INPUT: true; the input reads as it did. -/
def strokeAreaSpec : ChangeSpec := { name := "strokeArea", fn := fun _ => fun
  | [d1, d2, d3] => { results := [.lit (.bool true)], args := [d1, d2, d3] }
  | _ => none }
def strokeAreaRow : OpenClaim := { program := "ytepelndbbhdofaagreatdoor", sum := "d277213be40cb20f9716b6487585848e8bb7d15ec58f5c7707c34bd45b44c611", func := "gouache/gouachelaw14.StrokeArea", spec := "strokeArea", inPlace := ["internal/abi.NoEscape"], unfollowed := true, recurses := true, named := ["gouache/stroke.limits"], apart := false, laid := [("gouache/stroke.limits", laid_gouache_stroke_limits)] }
def StrokeAreaSaid : Prop := strokeAreaRow.holds Tryz.pinned (OpenSpec.ofChange strokeAreaSpec)

/-- ITS FALSE NEIGHBOUR: 'it returns false'. Refute it at one input. -/
def strokeAreaWrong : ChangeSpec := { name := "strokeArea", fn := fun _ => fun
  | [d1, d2, d3] => { results := [.lit (.bool false)], args := [d1, d2, d3] }
  | _ => none }
def StrokeAreaWrongFalsely : Prop := strokeAreaRow.holds Tryz.pinned (OpenSpec.ofChange strokeAreaWrong)

/- THE SECOND FORM. 'bulk': how many values and letters a reading holds, each counted each time it is reached (what is shared counts as often as it is met; a slice's spare places count too). A statement '..UptoSaid' is the law's where the arguments, and the package variables that the reading takes, are together of bulk at most 1048576: NARROWER than '..Said'. Prove '..Said' where nothing that the law and all that it calls make is longer than what came in: it says more and counts as full. Else prove '..UptoSaid'. A law counts once. -/
mutual
def uptoBulk {H : Type} : DataW H → Nat
  | .lit (.string bytes) => bytes.length + 1
  | .lit _ => 1
  | .nil => 1
  | .ptr d => uptoBulk d + 1
  | .slice elems spare => uptoBulkAll elems + uptoBulkAll spare + 1
  | .agg parts => uptoBulkAll parts + 1
  | .iface _ d => uptoBulk d + 1
  | .map entries => uptoBulkEntries entries + 1
  | .held _ => 1
def uptoBulkAll {H : Type} : List (DataW H) → Nat
  | [] => 0
  | d :: r => uptoBulk d + uptoBulkAll r
def uptoBulkEntries {H : Type} : List (Lit × DataW H) → Nat
  | [] => 0
  | x :: r => uptoBulkEntry x + uptoBulkEntries r
def uptoBulkEntry {H : Type} : Lit × DataW H → Nat
  | (.string bytes, d) => bytes.length + uptoBulk d + 1
  | (_, d) => uptoBulk d + 1
 end
def uptoSmall : (H : Type) → List (DataW H) → Bool := fun _ ds => decide (uptoBulkAll ds ≤ 1048576)
def OpenSpec.upto (s : _root_.Go.ChangeSpec) : _root_.Go.OpenSpec := { _root_.Go.OpenSpec.ofChange s with cond := some uptoSmall }

/-- 'gouachelaw14.StrokeDabs', WHERE WHAT IT READS IS OF BULK AT MOST 1048576: true; the input reads as it did. -/
def strokeDabsUptoRow : OpenClaim := { program := "ytepelndbbhdofaagreatdoor", sum := "d277213be40cb20f9716b6487585848e8bb7d15ec58f5c7707c34bd45b44c611", func := "gouache/gouachelaw14.StrokeDabs", spec := "strokeDabs", inPlace := ["internal/abi.NoEscape"], unfollowed := true, recurses := true, named := ["gouache/stroke.limits"], apart := false, laid := [("gouache/stroke.limits", laid_gouache_stroke_limits)], narrowed := true }
def StrokeDabsUptoSaid : Prop := strokeDabsUptoRow.holds Tryz.pinned (OpenSpec.upto strokeDabsSpec)

/-- 'gouachelaw14.StrokeCount', WHERE WHAT IT READS IS OF BULK AT MOST 1048576: true; the input reads as it did. -/
def strokeCountUptoRow : OpenClaim := { program := "ytepelndbbhdofaagreatdoor", sum := "d277213be40cb20f9716b6487585848e8bb7d15ec58f5c7707c34bd45b44c611", func := "gouache/gouachelaw14.StrokeCount", spec := "strokeCount", inPlace := ["internal/abi.NoEscape"], unfollowed := true, recurses := true, named := ["gouache/stroke.limits"], apart := false, laid := [("gouache/stroke.limits", laid_gouache_stroke_limits)], narrowed := true }
def StrokeCountUptoSaid : Prop := strokeCountUptoRow.holds Tryz.pinned (OpenSpec.upto strokeCountSpec)

/-- 'gouachelaw14.StrokeDisk', WHERE WHAT IT READS IS OF BULK AT MOST 1048576: true; the input reads as it did. -/
def strokeDiskUptoRow : OpenClaim := { program := "ytepelndbbhdofaagreatdoor", sum := "d277213be40cb20f9716b6487585848e8bb7d15ec58f5c7707c34bd45b44c611", func := "gouache/gouachelaw14.StrokeDisk", spec := "strokeDisk", inPlace := ["internal/abi.NoEscape"], unfollowed := true, recurses := true, named := ["gouache/stroke.limits"], apart := false, laid := [("gouache/stroke.limits", laid_gouache_stroke_limits)], narrowed := true }
def StrokeDiskUptoSaid : Prop := strokeDiskUptoRow.holds Tryz.pinned (OpenSpec.upto strokeDiskSpec)

/-- 'gouachelaw14.StrokeSplit', WHERE WHAT IT READS IS OF BULK AT MOST 1048576: true; the input reads as it did. -/
def strokeSplitUptoRow : OpenClaim := { program := "ytepelndbbhdofaagreatdoor", sum := "d277213be40cb20f9716b6487585848e8bb7d15ec58f5c7707c34bd45b44c611", func := "gouache/gouachelaw14.StrokeSplit", spec := "strokeSplit", inPlace := ["internal/abi.NoEscape"], unfollowed := true, recurses := true, named := ["gouache/stroke.limits"], apart := false, laid := [("gouache/stroke.limits", laid_gouache_stroke_limits)], narrowed := true }
def StrokeSplitUptoSaid : Prop := strokeSplitUptoRow.holds Tryz.pinned (OpenSpec.upto strokeSplitSpec)

/-- 'gouachelaw14.StrokeErase', WHERE WHAT IT READS IS OF BULK AT MOST 1048576: true; the input reads as it did. -/
def strokeEraseUptoRow : OpenClaim := { program := "ytepelndbbhdofaagreatdoor", sum := "d277213be40cb20f9716b6487585848e8bb7d15ec58f5c7707c34bd45b44c611", func := "gouache/gouachelaw14.StrokeErase", spec := "strokeErase", inPlace := ["internal/abi.NoEscape"], unfollowed := true, recurses := true, named := ["gouache/stroke.limits"], apart := false, laid := [("gouache/stroke.limits", laid_gouache_stroke_limits)], narrowed := true }
def StrokeEraseUptoSaid : Prop := strokeEraseUptoRow.holds Tryz.pinned (OpenSpec.upto strokeEraseSpec)

/-- 'gouachelaw14.StrokeBytes', WHERE WHAT IT READS IS OF BULK AT MOST 1048576: true; the input reads as it did. -/
def strokeBytesUptoRow : OpenClaim := { program := "ytepelndbbhdofaagreatdoor", sum := "d277213be40cb20f9716b6487585848e8bb7d15ec58f5c7707c34bd45b44c611", func := "gouache/gouachelaw14.StrokeBytes", spec := "strokeBytes", inPlace := ["internal/abi.NoEscape"], unfollowed := true, recurses := true, named := ["gouache/stroke.limits"], apart := false, laid := [("gouache/stroke.limits", laid_gouache_stroke_limits)], narrowed := true }
def StrokeBytesUptoSaid : Prop := strokeBytesUptoRow.holds Tryz.pinned (OpenSpec.upto strokeBytesSpec)

/-- 'gouachelaw14.StrokePaint', WHERE WHAT IT READS IS OF BULK AT MOST 1048576: true; the input reads as it did. -/
def strokePaintUptoRow : OpenClaim := { program := "ytepelndbbhdofaagreatdoor", sum := "d277213be40cb20f9716b6487585848e8bb7d15ec58f5c7707c34bd45b44c611", func := "gouache/gouachelaw14.StrokePaint", spec := "strokePaint", inPlace := ["internal/abi.NoEscape"], unfollowed := true, recurses := true, named := ["gouache/stroke.limits"], apart := false, laid := [("gouache/stroke.limits", laid_gouache_stroke_limits)], narrowed := true }
def StrokePaintUptoSaid : Prop := strokePaintUptoRow.holds Tryz.pinned (OpenSpec.upto strokePaintSpec)

/-- 'gouachelaw14.StrokeShift', WHERE WHAT IT READS IS OF BULK AT MOST 1048576: true; the input reads as it did. -/
def strokeShiftUptoRow : OpenClaim := { program := "ytepelndbbhdofaagreatdoor", sum := "d277213be40cb20f9716b6487585848e8bb7d15ec58f5c7707c34bd45b44c611", func := "gouache/gouachelaw14.StrokeShift", spec := "strokeShift", inPlace := ["internal/abi.NoEscape"], unfollowed := true, recurses := true, named := ["gouache/stroke.limits"], apart := false, laid := [("gouache/stroke.limits", laid_gouache_stroke_limits)], narrowed := true }
def StrokeShiftUptoSaid : Prop := strokeShiftUptoRow.holds Tryz.pinned (OpenSpec.upto strokeShiftSpec)

/-- 'gouachelaw14.StrokeHalves', WHERE WHAT IT READS IS OF BULK AT MOST 1048576: true; the input reads as it did. -/
def strokeHalvesUptoRow : OpenClaim := { program := "ytepelndbbhdofaagreatdoor", sum := "d277213be40cb20f9716b6487585848e8bb7d15ec58f5c7707c34bd45b44c611", func := "gouache/gouachelaw14.StrokeHalves", spec := "strokeHalves", inPlace := ["internal/abi.NoEscape"], unfollowed := true, recurses := true, named := ["gouache/stroke.limits"], apart := false, laid := [("gouache/stroke.limits", laid_gouache_stroke_limits)], narrowed := true }
def StrokeHalvesUptoSaid : Prop := strokeHalvesUptoRow.holds Tryz.pinned (OpenSpec.upto strokeHalvesSpec)

/-- 'gouachelaw14.StrokeArea', WHERE WHAT IT READS IS OF BULK AT MOST 1048576: true; the input reads as it did. -/
def strokeAreaUptoRow : OpenClaim := { program := "ytepelndbbhdofaagreatdoor", sum := "d277213be40cb20f9716b6487585848e8bb7d15ec58f5c7707c34bd45b44c611", func := "gouache/gouachelaw14.StrokeArea", spec := "strokeArea", inPlace := ["internal/abi.NoEscape"], unfollowed := true, recurses := true, named := ["gouache/stroke.limits"], apart := false, laid := [("gouache/stroke.limits", laid_gouache_stroke_limits)], narrowed := true }
def StrokeAreaUptoSaid : Prop := strokeAreaUptoRow.holds Tryz.pinned (OpenSpec.upto strokeAreaSpec)

end Rows
end Go.Proofs.YtepelndbbhdofaaGreatDoor
