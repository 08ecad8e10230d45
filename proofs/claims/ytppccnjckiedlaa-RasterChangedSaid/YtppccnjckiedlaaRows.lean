/-
  No cell of these rows narrows 'for every input' (looked for: loops, veiled, ifaces, maps, wideKeys, modest, calm, conditions, laid).
  DERIVED. THE GIVEN ROWS OF THIS SEAT. 11 by the template 'for every input the law returns true; each argument reads behind the call as it read before'; 0 by the template 'total and deterministic' (their statements: YtppccnjckiedlaaTotals.lean).
  GIVEN WITH THE SEED: the statements are not yours to turn. If you find one false, say at which input.
  Laid BY PROGRAM, IN A SANDBOX (cutbox-rows.mjs): the forced cells as the released guide's own fill.sh prints them over the translation ad05495c9242c02d… (all of the seat's roots in one cut). By AI agents, Wed Nov 11 2026. No macro, syntax, notation, axiom, sorry.
-/
import Derived.Test.YtppccnjckiedlaaChecked
import GoSem.Claim
import GoSem.ClaimJoined
import GoSem.ClaimMapViews
import Derived.JoinedTies
import Derived.KernelRfl
namespace Go.Proofs.Ytppccnjckiedlaa
/- THE CELL 'sum', in the pinned program and in every row, IS THE sha256 OF THE DUMP (.gsa) THAT YtppccnjckiedlaaProg.lean LOADS. Nothing in Lean hashes anything: it is a label: what it is worth is what the hold of that sum in a sandbox is worth. -/
noncomputable def Try.pinned : Pinned := { name := "ytppccnjckiedlaa", sum := "ad05495c9242c02d96408b98bf46c236f8ea769355fc0b4f0b08f8f857574c99", checked := Try.checked }
namespace Rows
def none {H : Type} : Left H := { results := [], args := [] }

/-- 'gouachelaw08.RasterValid': WHATEVER THE INPUT: true; the input reads as it did. -/
def rasterValidSpec : ChangeSpec := { name := "rasterValid", fn := fun _ => fun
  | [d1, d2] => { results := [.lit (.bool true)], args := [d1, d2] }
  | _ => none }
def rasterValidRow : OpenClaim := { program := "ytppccnjckiedlaa", sum := "ad05495c9242c02d96408b98bf46c236f8ea769355fc0b4f0b08f8f857574c99", func := "gouache/gouachelaw08.RasterValid", spec := "rasterValid", unfollowed := true, recurses := true, apart := false }
def RasterValidSaid : Prop := rasterValidRow.holds Try.pinned (OpenSpec.ofChange rasterValidSpec)

/-- ITS FALSE NEIGHBOUR: 'it returns false'. Refute it at one input. -/
def rasterValidWrong : ChangeSpec := { name := "rasterValid", fn := fun _ => fun
  | [d1, d2] => { results := [.lit (.bool false)], args := [d1, d2] }
  | _ => none }
def RasterValidWrongFalsely : Prop := rasterValidRow.holds Try.pinned (OpenSpec.ofChange rasterValidWrong)

/-- 'gouachelaw08.RasterGet': WHATEVER THE INPUT: true; the input reads as it did. -/
def rasterGetSpec : ChangeSpec := { name := "rasterGet", fn := fun _ => fun
  | [d1, d2, d3] => { results := [.lit (.bool true)], args := [d1, d2, d3] }
  | _ => none }
def rasterGetRow : OpenClaim := { program := "ytppccnjckiedlaa", sum := "ad05495c9242c02d96408b98bf46c236f8ea769355fc0b4f0b08f8f857574c99", func := "gouache/gouachelaw08.RasterGet", spec := "rasterGet", unfollowed := true, recurses := true, apart := false }
def RasterGetSaid : Prop := rasterGetRow.holds Try.pinned (OpenSpec.ofChange rasterGetSpec)

/-- ITS FALSE NEIGHBOUR: 'it returns false'. Refute it at one input. -/
def rasterGetWrong : ChangeSpec := { name := "rasterGet", fn := fun _ => fun
  | [d1, d2, d3] => { results := [.lit (.bool false)], args := [d1, d2, d3] }
  | _ => none }
def RasterGetWrongFalsely : Prop := rasterGetRow.holds Try.pinned (OpenSpec.ofChange rasterGetWrong)

/-- 'gouachelaw08.RasterPut': WHATEVER THE INPUT: true; the input reads as it did. -/
def rasterPutSpec : ChangeSpec := { name := "rasterPut", fn := fun _ => fun
  | [d1, d2, d3] => { results := [.lit (.bool true)], args := [d1, d2, d3] }
  | _ => none }
def rasterPutRow : OpenClaim := { program := "ytppccnjckiedlaa", sum := "ad05495c9242c02d96408b98bf46c236f8ea769355fc0b4f0b08f8f857574c99", func := "gouache/gouachelaw08.RasterPut", spec := "rasterPut", unfollowed := true, recurses := true, apart := false }
def RasterPutSaid : Prop := rasterPutRow.holds Try.pinned (OpenSpec.ofChange rasterPutSpec)

/-- ITS FALSE NEIGHBOUR: 'it returns false'. Refute it at one input. -/
def rasterPutWrong : ChangeSpec := { name := "rasterPut", fn := fun _ => fun
  | [d1, d2, d3] => { results := [.lit (.bool false)], args := [d1, d2, d3] }
  | _ => none }
def RasterPutWrongFalsely : Prop := rasterPutRow.holds Try.pinned (OpenSpec.ofChange rasterPutWrong)

/-- 'gouachelaw08.RasterDots': WHATEVER THE INPUT: true; the input reads as it did. -/
def rasterDotsSpec : ChangeSpec := { name := "rasterDots", fn := fun _ => fun
  | [d] => { results := [.lit (.bool true)], args := [d] }
  | _ => none }
def rasterDotsRow : OpenClaim := { program := "ytppccnjckiedlaa", sum := "ad05495c9242c02d96408b98bf46c236f8ea769355fc0b4f0b08f8f857574c99", func := "gouache/gouachelaw08.RasterDots", spec := "rasterDots", unfollowed := true, recurses := true, apart := false }
def RasterDotsSaid : Prop := rasterDotsRow.holds Try.pinned (OpenSpec.ofChange rasterDotsSpec)

/-- ITS FALSE NEIGHBOUR: 'it returns false'. Refute it at one input. -/
def rasterDotsWrong : ChangeSpec := { name := "rasterDots", fn := fun _ => fun
  | [d] => { results := [.lit (.bool false)], args := [d] }
  | _ => none }
def RasterDotsWrongFalsely : Prop := rasterDotsRow.holds Try.pinned (OpenSpec.ofChange rasterDotsWrong)

/-- 'gouachelaw08.RasterImage': WHATEVER THE INPUT: true; the input reads as it did. -/
def rasterImageSpec : ChangeSpec := { name := "rasterImage", fn := fun _ => fun
  | [d1, d2, d3] => { results := [.lit (.bool true)], args := [d1, d2, d3] }
  | _ => none }
def rasterImageRow : OpenClaim := { program := "ytppccnjckiedlaa", sum := "ad05495c9242c02d96408b98bf46c236f8ea769355fc0b4f0b08f8f857574c99", func := "gouache/gouachelaw08.RasterImage", spec := "rasterImage", unfollowed := true, recurses := true, apart := false }
def RasterImageSaid : Prop := rasterImageRow.holds Try.pinned (OpenSpec.ofChange rasterImageSpec)

/-- ITS FALSE NEIGHBOUR: 'it returns false'. Refute it at one input. -/
def rasterImageWrong : ChangeSpec := { name := "rasterImage", fn := fun _ => fun
  | [d1, d2, d3] => { results := [.lit (.bool false)], args := [d1, d2, d3] }
  | _ => none }
def RasterImageWrongFalsely : Prop := rasterImageRow.holds Try.pinned (OpenSpec.ofChange rasterImageWrong)

/-- 'gouachelaw08.RasterLimits': WHATEVER THE INPUT: true; the input reads as it did. -/
def rasterLimitsSpec : ChangeSpec := { name := "rasterLimits", fn := fun _ => fun
  | [d1, d2] => { results := [.lit (.bool true)], args := [d1, d2] }
  | _ => none }
def rasterLimitsRow : OpenClaim := { program := "ytppccnjckiedlaa", sum := "ad05495c9242c02d96408b98bf46c236f8ea769355fc0b4f0b08f8f857574c99", func := "gouache/gouachelaw08.RasterLimits", spec := "rasterLimits", unfollowed := true, recurses := true, apart := false }
def RasterLimitsSaid : Prop := rasterLimitsRow.holds Try.pinned (OpenSpec.ofChange rasterLimitsSpec)

/-- ITS FALSE NEIGHBOUR: 'it returns false'. Refute it at one input. -/
def rasterLimitsWrong : ChangeSpec := { name := "rasterLimits", fn := fun _ => fun
  | [d1, d2] => { results := [.lit (.bool false)], args := [d1, d2] }
  | _ => none }
def RasterLimitsWrongFalsely : Prop := rasterLimitsRow.holds Try.pinned (OpenSpec.ofChange rasterLimitsWrong)

/-- 'gouachelaw08.RasterBounds': WHATEVER THE INPUT: true; the input reads as it did. -/
def rasterBoundsSpec : ChangeSpec := { name := "rasterBounds", fn := fun _ => fun
  | [d1, d2, d3] => { results := [.lit (.bool true)], args := [d1, d2, d3] }
  | _ => none }
def rasterBoundsRow : OpenClaim := { program := "ytppccnjckiedlaa", sum := "ad05495c9242c02d96408b98bf46c236f8ea769355fc0b4f0b08f8f857574c99", func := "gouache/gouachelaw08.RasterBounds", spec := "rasterBounds", unfollowed := true, recurses := true, apart := false }
def RasterBoundsSaid : Prop := rasterBoundsRow.holds Try.pinned (OpenSpec.ofChange rasterBoundsSpec)

/-- ITS FALSE NEIGHBOUR: 'it returns false'. Refute it at one input. -/
def rasterBoundsWrong : ChangeSpec := { name := "rasterBounds", fn := fun _ => fun
  | [d1, d2, d3] => { results := [.lit (.bool false)], args := [d1, d2, d3] }
  | _ => none }
def RasterBoundsWrongFalsely : Prop := rasterBoundsRow.holds Try.pinned (OpenSpec.ofChange rasterBoundsWrong)

/-- 'gouachelaw08.RasterCrop': WHATEVER THE INPUT: true; the input reads as it did. -/
def rasterCropSpec : ChangeSpec := { name := "rasterCrop", fn := fun _ => fun
  | [d1, d2, d3] => { results := [.lit (.bool true)], args := [d1, d2, d3] }
  | _ => none }
def rasterCropRow : OpenClaim := { program := "ytppccnjckiedlaa", sum := "ad05495c9242c02d96408b98bf46c236f8ea769355fc0b4f0b08f8f857574c99", func := "gouache/gouachelaw08.RasterCrop", spec := "rasterCrop", unfollowed := true, recurses := true, apart := false }
def RasterCropSaid : Prop := rasterCropRow.holds Try.pinned (OpenSpec.ofChange rasterCropSpec)

/-- ITS FALSE NEIGHBOUR: 'it returns false'. Refute it at one input. -/
def rasterCropWrong : ChangeSpec := { name := "rasterCrop", fn := fun _ => fun
  | [d1, d2, d3] => { results := [.lit (.bool false)], args := [d1, d2, d3] }
  | _ => none }
def RasterCropWrongFalsely : Prop := rasterCropRow.holds Try.pinned (OpenSpec.ofChange rasterCropWrong)

/-- 'gouachelaw08.RasterChanged': WHATEVER THE INPUT: true; the input reads as it did. -/
def rasterChangedSpec : ChangeSpec := { name := "rasterChanged", fn := fun _ => fun
  | [d1, d2] => { results := [.lit (.bool true)], args := [d1, d2] }
  | _ => none }
def rasterChangedRow : OpenClaim := { program := "ytppccnjckiedlaa", sum := "ad05495c9242c02d96408b98bf46c236f8ea769355fc0b4f0b08f8f857574c99", func := "gouache/gouachelaw08.RasterChanged", spec := "rasterChanged", unfollowed := true, recurses := true, apart := false }
def RasterChangedSaid : Prop := rasterChangedRow.holds Try.pinned (OpenSpec.ofChange rasterChangedSpec)

/-- ITS FALSE NEIGHBOUR: 'it returns false'. Refute it at one input. -/
def rasterChangedWrong : ChangeSpec := { name := "rasterChanged", fn := fun _ => fun
  | [d1, d2] => { results := [.lit (.bool false)], args := [d1, d2] }
  | _ => none }
def RasterChangedWrongFalsely : Prop := rasterChangedRow.holds Try.pinned (OpenSpec.ofChange rasterChangedWrong)

/-- 'gouachelaw08.RasterPaste': WHATEVER THE INPUT: true; the input reads as it did. -/
def rasterPasteSpec : ChangeSpec := { name := "rasterPaste", fn := fun _ => fun
  | [d1, d2, d3] => { results := [.lit (.bool true)], args := [d1, d2, d3] }
  | _ => none }
def rasterPasteRow : OpenClaim := { program := "ytppccnjckiedlaa", sum := "ad05495c9242c02d96408b98bf46c236f8ea769355fc0b4f0b08f8f857574c99", func := "gouache/gouachelaw08.RasterPaste", spec := "rasterPaste", unfollowed := true, recurses := true, apart := false }
def RasterPasteSaid : Prop := rasterPasteRow.holds Try.pinned (OpenSpec.ofChange rasterPasteSpec)

/-- ITS FALSE NEIGHBOUR: 'it returns false'. Refute it at one input. -/
def rasterPasteWrong : ChangeSpec := { name := "rasterPaste", fn := fun _ => fun
  | [d1, d2, d3] => { results := [.lit (.bool false)], args := [d1, d2, d3] }
  | _ => none }
def RasterPasteWrongFalsely : Prop := rasterPasteRow.holds Try.pinned (OpenSpec.ofChange rasterPasteWrong)

/-- 'gouachelaw08.RasterCopy': WHATEVER THE INPUT: true; the input reads as it did. -/
def rasterCopySpec : ChangeSpec := { name := "rasterCopy", fn := fun _ => fun
  | [d1, d2, d3] => { results := [.lit (.bool true)], args := [d1, d2, d3] }
  | _ => none }
def rasterCopyRow : OpenClaim := { program := "ytppccnjckiedlaa", sum := "ad05495c9242c02d96408b98bf46c236f8ea769355fc0b4f0b08f8f857574c99", func := "gouache/gouachelaw08.RasterCopy", spec := "rasterCopy", unfollowed := true, recurses := true, apart := false }
def RasterCopySaid : Prop := rasterCopyRow.holds Try.pinned (OpenSpec.ofChange rasterCopySpec)

/-- ITS FALSE NEIGHBOUR: 'it returns false'. Refute it at one input. -/
def rasterCopyWrong : ChangeSpec := { name := "rasterCopy", fn := fun _ => fun
  | [d1, d2, d3] => { results := [.lit (.bool false)], args := [d1, d2, d3] }
  | _ => none }
def RasterCopyWrongFalsely : Prop := rasterCopyRow.holds Try.pinned (OpenSpec.ofChange rasterCopyWrong)

/- THE SECOND FORM. 'bulk': how many values and letters a reading holds, each counted each time it is reached (what is shared counts as often as it is met; a slice's spare places count too). A statement '..UptoSaid' is the law's where the arguments, and the package variables that the reading takes, are together of bulk at most 1048576: NARROWER than '..Said'. Prove '..Said' where nothing that the law and all that it calls make is longer than what came in: it says more and counts as full. Else prove '..UptoSaid'. A law counts once. -/
mutual
def uptoBulk {H : Type} : DataW H → Nat
  | .lit (.string bytes) => bytes.length + 1
  | .lit _ => 1
  | .nil => 1
  | .ptr d => uptoBulk d + 1
  | .slice elems spare => uptoBulkAll elems + uptoBulkAll spare + 1
  | .agg parts => uptoBulkAll parts + 1
  | .iface _ d => uptoBulk d + 1
  | .map entries => uptoBulkEntries entries + 1
  | .held _ => 1
def uptoBulkAll {H : Type} : List (DataW H) → Nat
  | [] => 0
  | d :: r => uptoBulk d + uptoBulkAll r
def uptoBulkEntries {H : Type} : List (Lit × DataW H) → Nat
  | [] => 0
  | x :: r => uptoBulkEntry x + uptoBulkEntries r
def uptoBulkEntry {H : Type} : Lit × DataW H → Nat
  | (.string bytes, d) => bytes.length + uptoBulk d + 1
  | (_, d) => uptoBulk d + 1
 end
def uptoSmall : (H : Type) → List (DataW H) → Bool := fun _ ds => decide (uptoBulkAll ds ≤ 1048576)
def OpenSpec.upto (s : _root_.Go.ChangeSpec) : _root_.Go.OpenSpec := { _root_.Go.OpenSpec.ofChange s with cond := some uptoSmall }

/-- 'gouachelaw08.RasterValid', WHERE WHAT IT READS IS OF BULK AT MOST 1048576: true; the input reads as it did. -/
def rasterValidUptoRow : OpenClaim := { program := "ytppccnjckiedlaa", sum := "ad05495c9242c02d96408b98bf46c236f8ea769355fc0b4f0b08f8f857574c99", func := "gouache/gouachelaw08.RasterValid", spec := "rasterValid", unfollowed := true, recurses := true, apart := false, narrowed := true }
def RasterValidUptoSaid : Prop := rasterValidUptoRow.holds Try.pinned (OpenSpec.upto rasterValidSpec)

/-- 'gouachelaw08.RasterGet', WHERE WHAT IT READS IS OF BULK AT MOST 1048576: true; the input reads as it did. -/
def rasterGetUptoRow : OpenClaim := { program := "ytppccnjckiedlaa", sum := "ad05495c9242c02d96408b98bf46c236f8ea769355fc0b4f0b08f8f857574c99", func := "gouache/gouachelaw08.RasterGet", spec := "rasterGet", unfollowed := true, recurses := true, apart := false, narrowed := true }
def RasterGetUptoSaid : Prop := rasterGetUptoRow.holds Try.pinned (OpenSpec.upto rasterGetSpec)

/-- 'gouachelaw08.RasterPut', WHERE WHAT IT READS IS OF BULK AT MOST 1048576: true; the input reads as it did. -/
def rasterPutUptoRow : OpenClaim := { program := "ytppccnjckiedlaa", sum := "ad05495c9242c02d96408b98bf46c236f8ea769355fc0b4f0b08f8f857574c99", func := "gouache/gouachelaw08.RasterPut", spec := "rasterPut", unfollowed := true, recurses := true, apart := false, narrowed := true }
def RasterPutUptoSaid : Prop := rasterPutUptoRow.holds Try.pinned (OpenSpec.upto rasterPutSpec)

/-- 'gouachelaw08.RasterDots', WHERE WHAT IT READS IS OF BULK AT MOST 1048576: true; the input reads as it did. -/
def rasterDotsUptoRow : OpenClaim := { program := "ytppccnjckiedlaa", sum := "ad05495c9242c02d96408b98bf46c236f8ea769355fc0b4f0b08f8f857574c99", func := "gouache/gouachelaw08.RasterDots", spec := "rasterDots", unfollowed := true, recurses := true, apart := false, narrowed := true }
def RasterDotsUptoSaid : Prop := rasterDotsUptoRow.holds Try.pinned (OpenSpec.upto rasterDotsSpec)

/-- 'gouachelaw08.RasterImage', WHERE WHAT IT READS IS OF BULK AT MOST 1048576: true; the input reads as it did. -/
def rasterImageUptoRow : OpenClaim := { program := "ytppccnjckiedlaa", sum := "ad05495c9242c02d96408b98bf46c236f8ea769355fc0b4f0b08f8f857574c99", func := "gouache/gouachelaw08.RasterImage", spec := "rasterImage", unfollowed := true, recurses := true, apart := false, narrowed := true }
def RasterImageUptoSaid : Prop := rasterImageUptoRow.holds Try.pinned (OpenSpec.upto rasterImageSpec)

/-- 'gouachelaw08.RasterLimits', WHERE WHAT IT READS IS OF BULK AT MOST 1048576: true; the input reads as it did. -/
def rasterLimitsUptoRow : OpenClaim := { program := "ytppccnjckiedlaa", sum := "ad05495c9242c02d96408b98bf46c236f8ea769355fc0b4f0b08f8f857574c99", func := "gouache/gouachelaw08.RasterLimits", spec := "rasterLimits", unfollowed := true, recurses := true, apart := false, narrowed := true }
def RasterLimitsUptoSaid : Prop := rasterLimitsUptoRow.holds Try.pinned (OpenSpec.upto rasterLimitsSpec)

/-- 'gouachelaw08.RasterBounds', WHERE WHAT IT READS IS OF BULK AT MOST 1048576: true; the input reads as it did. -/
def rasterBoundsUptoRow : OpenClaim := { program := "ytppccnjckiedlaa", sum := "ad05495c9242c02d96408b98bf46c236f8ea769355fc0b4f0b08f8f857574c99", func := "gouache/gouachelaw08.RasterBounds", spec := "rasterBounds", unfollowed := true, recurses := true, apart := false, narrowed := true }
def RasterBoundsUptoSaid : Prop := rasterBoundsUptoRow.holds Try.pinned (OpenSpec.upto rasterBoundsSpec)

/-- 'gouachelaw08.RasterCrop', WHERE WHAT IT READS IS OF BULK AT MOST 1048576: true; the input reads as it did. -/
def rasterCropUptoRow : OpenClaim := { program := "ytppccnjckiedlaa", sum := "ad05495c9242c02d96408b98bf46c236f8ea769355fc0b4f0b08f8f857574c99", func := "gouache/gouachelaw08.RasterCrop", spec := "rasterCrop", unfollowed := true, recurses := true, apart := false, narrowed := true }
def RasterCropUptoSaid : Prop := rasterCropUptoRow.holds Try.pinned (OpenSpec.upto rasterCropSpec)

/-- 'gouachelaw08.RasterChanged', WHERE WHAT IT READS IS OF BULK AT MOST 1048576: true; the input reads as it did. -/
def rasterChangedUptoRow : OpenClaim := { program := "ytppccnjckiedlaa", sum := "ad05495c9242c02d96408b98bf46c236f8ea769355fc0b4f0b08f8f857574c99", func := "gouache/gouachelaw08.RasterChanged", spec := "rasterChanged", unfollowed := true, recurses := true, apart := false, narrowed := true }
def RasterChangedUptoSaid : Prop := rasterChangedUptoRow.holds Try.pinned (OpenSpec.upto rasterChangedSpec)

/-- 'gouachelaw08.RasterPaste', WHERE WHAT IT READS IS OF BULK AT MOST 1048576: true; the input reads as it did. -/
def rasterPasteUptoRow : OpenClaim := { program := "ytppccnjckiedlaa", sum := "ad05495c9242c02d96408b98bf46c236f8ea769355fc0b4f0b08f8f857574c99", func := "gouache/gouachelaw08.RasterPaste", spec := "rasterPaste", unfollowed := true, recurses := true, apart := false, narrowed := true }
def RasterPasteUptoSaid : Prop := rasterPasteUptoRow.holds Try.pinned (OpenSpec.upto rasterPasteSpec)

/-- 'gouachelaw08.RasterCopy', WHERE WHAT IT READS IS OF BULK AT MOST 1048576: true; the input reads as it did. -/
def rasterCopyUptoRow : OpenClaim := { program := "ytppccnjckiedlaa", sum := "ad05495c9242c02d96408b98bf46c236f8ea769355fc0b4f0b08f8f857574c99", func := "gouache/gouachelaw08.RasterCopy", spec := "rasterCopy", unfollowed := true, recurses := true, apart := false, narrowed := true }
def RasterCopyUptoSaid : Prop := rasterCopyUptoRow.holds Try.pinned (OpenSpec.upto rasterCopySpec)

end Rows
end Go.Proofs.Ytppccnjckiedlaa
