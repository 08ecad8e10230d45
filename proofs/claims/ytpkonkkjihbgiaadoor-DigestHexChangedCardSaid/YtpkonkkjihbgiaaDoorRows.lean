/-
  NARROWER THAN 'FOR EVERY INPUT', by the rows' own cells (each row's printed sentence says how): DigestOf: laid · DigestBlocks: laid · DigestJoin: laid · DigestPreimage: laid · DigestNested: laid · DigestHex: laid · DigestHexBack: laid · DigestHexChanged: laid · DigestLengths: laid · DigestVectors: laid.
  DERIVED. THE GIVEN ROWS OF THIS SEAT. 10 by the template 'for every input the law returns true; each argument reads behind the call as it read before'; 0 by the template 'total and deterministic' (their statements: YtpkonkkjihbgiaaDoorTotals.lean).
  GIVEN WITH THE SEED: the statements are not yours to turn. If you find one false, say at which input.
  Laid BY PROGRAM, IN A SANDBOX (cutbox-rows.mjs): the forced cells as the released guide's own fill.sh prints them over the translation f97a428b8ec0a170… (all of the seat's roots in one cut). By AI agents, Wed Nov 11 2026. No macro, syntax, notation, axiom, sorry.
-/
import Derived.Test.YtpkonkkjihbgiaaDoorChecked
import GoSem.Claim
import GoSem.ClaimJoined
import GoSem.ClaimMapViews
import Derived.JoinedTies
import Derived.KernelRfl
namespace Go.Proofs.YtpkonkkjihbgiaaDoor
/- THE CELL 'sum', in the pinned program and in every row, IS THE sha256 OF THE DUMP (.gsa) THAT YtpkonkkjihbgiaaDoorProg.lean LOADS. Nothing in Lean hashes anything: it is a label: what it is worth is what the hold of that sum in a sandbox is worth. -/
noncomputable def Tryd.pinned : Pinned := { name := "ytpkonkkjihbgiaadoor", sum := "f97a428b8ec0a170a897294b0904e348635ac9ac145ddbfe07d7c9cca3965e90", checked := Tryd.checked }
namespace Rows
def none {H : Type} : Left H := { results := [], args := [] }

/- WHAT THE LISTED PACKAGE-LEVEL VARIABLES READ AS WHEN THE CALL BEGINS. Each datum BY PROGRAM (the guide's laid-datum.mjs) off the statement by which the dump's own 'gosem.cut.vars' lays the variable. In a bare row this is a premise. The card (YtpkonkkjihbgiaaDoorCards.lean) ties it to the program's text. -/
def laid_gouache_digest_round {H : Type} : DataW H := .agg [.lit (.int .u32 1116352408), .lit (.int .u32 1899447441), .lit (.int .u32 3049323471), .lit (.int .u32 3921009573), .lit (.int .u32 961987163), .lit (.int .u32 1508970993), .lit (.int .u32 2453635748), .lit (.int .u32 2870763221), .lit (.int .u32 3624381080), .lit (.int .u32 310598401), .lit (.int .u32 607225278), .lit (.int .u32 1426881987), .lit (.int .u32 1925078388), .lit (.int .u32 2162078206), .lit (.int .u32 2614888103), .lit (.int .u32 3248222580), .lit (.int .u32 3835390401), .lit (.int .u32 4022224774), .lit (.int .u32 264347078), .lit (.int .u32 604807628), .lit (.int .u32 770255983), .lit (.int .u32 1249150122), .lit (.int .u32 1555081692), .lit (.int .u32 1996064986), .lit (.int .u32 2554220882), .lit (.int .u32 2821834349), .lit (.int .u32 2952996808), .lit (.int .u32 3210313671), .lit (.int .u32 3336571891), .lit (.int .u32 3584528711), .lit (.int .u32 113926993), .lit (.int .u32 338241895), .lit (.int .u32 666307205), .lit (.int .u32 773529912), .lit (.int .u32 1294757372), .lit (.int .u32 1396182291), .lit (.int .u32 1695183700), .lit (.int .u32 1986661051), .lit (.int .u32 2177026350), .lit (.int .u32 2456956037), .lit (.int .u32 2730485921), .lit (.int .u32 2820302411), .lit (.int .u32 3259730800), .lit (.int .u32 3345764771), .lit (.int .u32 3516065817), .lit (.int .u32 3600352804), .lit (.int .u32 4094571909), .lit (.int .u32 275423344), .lit (.int .u32 430227734), .lit (.int .u32 506948616), .lit (.int .u32 659060556), .lit (.int .u32 883997877), .lit (.int .u32 958139571), .lit (.int .u32 1322822218), .lit (.int .u32 1537002063), .lit (.int .u32 1747873779), .lit (.int .u32 1955562222), .lit (.int .u32 2024104815), .lit (.int .u32 2227730452), .lit (.int .u32 2361852424), .lit (.int .u32 2428436474), .lit (.int .u32 2756734187), .lit (.int .u32 3204031479), .lit (.int .u32 3329325298)]
def laid_gouache_digest_start {H : Type} : DataW H := .agg [.lit (.int .u32 1779033703), .lit (.int .u32 3144134277), .lit (.int .u32 1013904242), .lit (.int .u32 2773480762), .lit (.int .u32 1359893119), .lit (.int .u32 2600822924), .lit (.int .u32 528734635), .lit (.int .u32 1541459225)]

/-- 'gouachelaw02.DigestOf': WHATEVER THE INPUT: true; the input reads as it did. -/
def digestOfSpec : ChangeSpec := { name := "digestOf", fn := fun _ => fun
  | [d] => { results := [.lit (.bool true)], args := [d] }
  | _ => none }
def digestOfRow : OpenClaim := { program := "ytpkonkkjihbgiaadoor", sum := "f97a428b8ec0a170a897294b0904e348635ac9ac145ddbfe07d7c9cca3965e90", func := "gouache/gouachelaw02.DigestOf", spec := "digestOf", inPlace := ["internal/bytealg.IndexByteString", "internal/abi.NoEscape", "internal/bytealg.MakeNoZero"], named := ["gouache/digest.start", "gouache/digest.round"], apart := false, laid := [("gouache/digest.round", laid_gouache_digest_round), ("gouache/digest.start", laid_gouache_digest_start)] }
def DigestOfSaid : Prop := digestOfRow.holds Tryd.pinned (OpenSpec.ofChange digestOfSpec)

/-- ITS FALSE NEIGHBOUR: 'it returns false'. Refute it at one input. -/
def digestOfWrong : ChangeSpec := { name := "digestOf", fn := fun _ => fun
  | [d] => { results := [.lit (.bool false)], args := [d] }
  | _ => none }
def DigestOfWrongFalsely : Prop := digestOfRow.holds Tryd.pinned (OpenSpec.ofChange digestOfWrong)

/-- 'gouachelaw02.DigestBlocks': WHATEVER THE INPUT: true; the input reads as it did. -/
def digestBlocksSpec : ChangeSpec := { name := "digestBlocks", fn := fun _ => fun
  | [d1, d2] => { results := [.lit (.bool true)], args := [d1, d2] }
  | _ => none }
def digestBlocksRow : OpenClaim := { program := "ytpkonkkjihbgiaadoor", sum := "f97a428b8ec0a170a897294b0904e348635ac9ac145ddbfe07d7c9cca3965e90", func := "gouache/gouachelaw02.DigestBlocks", spec := "digestBlocks", inPlace := ["internal/bytealg.IndexByteString", "internal/abi.NoEscape", "internal/bytealg.MakeNoZero"], named := ["gouache/digest.start", "gouache/digest.round"], apart := false, laid := [("gouache/digest.round", laid_gouache_digest_round), ("gouache/digest.start", laid_gouache_digest_start)] }
def DigestBlocksSaid : Prop := digestBlocksRow.holds Tryd.pinned (OpenSpec.ofChange digestBlocksSpec)

/-- ITS FALSE NEIGHBOUR: 'it returns false'. Refute it at one input. -/
def digestBlocksWrong : ChangeSpec := { name := "digestBlocks", fn := fun _ => fun
  | [d1, d2] => { results := [.lit (.bool false)], args := [d1, d2] }
  | _ => none }
def DigestBlocksWrongFalsely : Prop := digestBlocksRow.holds Tryd.pinned (OpenSpec.ofChange digestBlocksWrong)

/-- 'gouachelaw02.DigestJoin': WHATEVER THE INPUT: true; the input reads as it did. -/
def digestJoinSpec : ChangeSpec := { name := "digestJoin", fn := fun _ => fun
  | [d] => { results := [.lit (.bool true)], args := [d] }
  | _ => none }
def digestJoinRow : OpenClaim := { program := "ytpkonkkjihbgiaadoor", sum := "f97a428b8ec0a170a897294b0904e348635ac9ac145ddbfe07d7c9cca3965e90", func := "gouache/gouachelaw02.DigestJoin", spec := "digestJoin", inPlace := ["internal/bytealg.IndexByteString", "internal/abi.NoEscape", "internal/bytealg.MakeNoZero"], named := ["gouache/digest.start", "gouache/digest.round"], apart := false, laid := [("gouache/digest.round", laid_gouache_digest_round), ("gouache/digest.start", laid_gouache_digest_start)] }
def DigestJoinSaid : Prop := digestJoinRow.holds Tryd.pinned (OpenSpec.ofChange digestJoinSpec)

/-- ITS FALSE NEIGHBOUR: 'it returns false'. Refute it at one input. -/
def digestJoinWrong : ChangeSpec := { name := "digestJoin", fn := fun _ => fun
  | [d] => { results := [.lit (.bool false)], args := [d] }
  | _ => none }
def DigestJoinWrongFalsely : Prop := digestJoinRow.holds Tryd.pinned (OpenSpec.ofChange digestJoinWrong)

/-- 'gouachelaw02.DigestPreimage': WHATEVER THE INPUT: true; the input reads as it did. -/
def digestPreimageSpec : ChangeSpec := { name := "digestPreimage", fn := fun _ => fun
  | [d1, d2] => { results := [.lit (.bool true)], args := [d1, d2] }
  | _ => none }
def digestPreimageRow : OpenClaim := { program := "ytpkonkkjihbgiaadoor", sum := "f97a428b8ec0a170a897294b0904e348635ac9ac145ddbfe07d7c9cca3965e90", func := "gouache/gouachelaw02.DigestPreimage", spec := "digestPreimage", inPlace := ["internal/bytealg.IndexByteString", "internal/abi.NoEscape", "internal/bytealg.MakeNoZero"], named := ["gouache/digest.start", "gouache/digest.round"], apart := false, laid := [("gouache/digest.round", laid_gouache_digest_round), ("gouache/digest.start", laid_gouache_digest_start)] }
def DigestPreimageSaid : Prop := digestPreimageRow.holds Tryd.pinned (OpenSpec.ofChange digestPreimageSpec)

/-- ITS FALSE NEIGHBOUR: 'it returns false'. Refute it at one input. -/
def digestPreimageWrong : ChangeSpec := { name := "digestPreimage", fn := fun _ => fun
  | [d1, d2] => { results := [.lit (.bool false)], args := [d1, d2] }
  | _ => none }
def DigestPreimageWrongFalsely : Prop := digestPreimageRow.holds Tryd.pinned (OpenSpec.ofChange digestPreimageWrong)

/-- 'gouachelaw02.DigestNested': WHATEVER THE INPUT: true; the input reads as it did. -/
def digestNestedSpec : ChangeSpec := { name := "digestNested", fn := fun _ => fun
  | [d1, d2] => { results := [.lit (.bool true)], args := [d1, d2] }
  | _ => none }
def digestNestedRow : OpenClaim := { program := "ytpkonkkjihbgiaadoor", sum := "f97a428b8ec0a170a897294b0904e348635ac9ac145ddbfe07d7c9cca3965e90", func := "gouache/gouachelaw02.DigestNested", spec := "digestNested", inPlace := ["internal/bytealg.IndexByteString", "internal/abi.NoEscape", "internal/bytealg.MakeNoZero"], named := ["gouache/digest.start", "gouache/digest.round"], apart := false, laid := [("gouache/digest.round", laid_gouache_digest_round), ("gouache/digest.start", laid_gouache_digest_start)] }
def DigestNestedSaid : Prop := digestNestedRow.holds Tryd.pinned (OpenSpec.ofChange digestNestedSpec)

/-- ITS FALSE NEIGHBOUR: 'it returns false'. Refute it at one input. -/
def digestNestedWrong : ChangeSpec := { name := "digestNested", fn := fun _ => fun
  | [d1, d2] => { results := [.lit (.bool false)], args := [d1, d2] }
  | _ => none }
def DigestNestedWrongFalsely : Prop := digestNestedRow.holds Tryd.pinned (OpenSpec.ofChange digestNestedWrong)

/-- 'gouachelaw02.DigestHex': WHATEVER THE INPUT: true; the input reads as it did. -/
def digestHexSpec : ChangeSpec := { name := "digestHex", fn := fun _ => fun
  | [d1, d2] => { results := [.lit (.bool true)], args := [d1, d2] }
  | _ => none }
def digestHexRow : OpenClaim := { program := "ytpkonkkjihbgiaadoor", sum := "f97a428b8ec0a170a897294b0904e348635ac9ac145ddbfe07d7c9cca3965e90", func := "gouache/gouachelaw02.DigestHex", spec := "digestHex", inPlace := ["internal/bytealg.IndexByteString", "internal/abi.NoEscape", "internal/bytealg.MakeNoZero"], named := ["gouache/digest.start", "gouache/digest.round"], apart := false, laid := [("gouache/digest.round", laid_gouache_digest_round), ("gouache/digest.start", laid_gouache_digest_start)] }
def DigestHexSaid : Prop := digestHexRow.holds Tryd.pinned (OpenSpec.ofChange digestHexSpec)

/-- ITS FALSE NEIGHBOUR: 'it returns false'. Refute it at one input. -/
def digestHexWrong : ChangeSpec := { name := "digestHex", fn := fun _ => fun
  | [d1, d2] => { results := [.lit (.bool false)], args := [d1, d2] }
  | _ => none }
def DigestHexWrongFalsely : Prop := digestHexRow.holds Tryd.pinned (OpenSpec.ofChange digestHexWrong)

/-- 'gouachelaw02.DigestHexBack': WHATEVER THE INPUT: true; the input reads as it did. -/
def digestHexBackSpec : ChangeSpec := { name := "digestHexBack", fn := fun _ => fun
  | [d] => { results := [.lit (.bool true)], args := [d] }
  | _ => none }
def digestHexBackRow : OpenClaim := { program := "ytpkonkkjihbgiaadoor", sum := "f97a428b8ec0a170a897294b0904e348635ac9ac145ddbfe07d7c9cca3965e90", func := "gouache/gouachelaw02.DigestHexBack", spec := "digestHexBack", inPlace := ["internal/bytealg.IndexByteString", "internal/abi.NoEscape", "internal/bytealg.MakeNoZero"], named := ["gouache/digest.start", "gouache/digest.round"], apart := false, laid := [("gouache/digest.round", laid_gouache_digest_round), ("gouache/digest.start", laid_gouache_digest_start)] }
def DigestHexBackSaid : Prop := digestHexBackRow.holds Tryd.pinned (OpenSpec.ofChange digestHexBackSpec)

/-- ITS FALSE NEIGHBOUR: 'it returns false'. Refute it at one input. -/
def digestHexBackWrong : ChangeSpec := { name := "digestHexBack", fn := fun _ => fun
  | [d] => { results := [.lit (.bool false)], args := [d] }
  | _ => none }
def DigestHexBackWrongFalsely : Prop := digestHexBackRow.holds Tryd.pinned (OpenSpec.ofChange digestHexBackWrong)

/-- 'gouachelaw02.DigestHexChanged': WHATEVER THE INPUT: true; the input reads as it did. -/
def digestHexChangedSpec : ChangeSpec := { name := "digestHexChanged", fn := fun _ => fun
  | [d1, d2, d3] => { results := [.lit (.bool true)], args := [d1, d2, d3] }
  | _ => none }
def digestHexChangedRow : OpenClaim := { program := "ytpkonkkjihbgiaadoor", sum := "f97a428b8ec0a170a897294b0904e348635ac9ac145ddbfe07d7c9cca3965e90", func := "gouache/gouachelaw02.DigestHexChanged", spec := "digestHexChanged", inPlace := ["internal/bytealg.IndexByteString", "internal/abi.NoEscape", "internal/bytealg.MakeNoZero"], named := ["gouache/digest.start", "gouache/digest.round"], apart := false, laid := [("gouache/digest.round", laid_gouache_digest_round), ("gouache/digest.start", laid_gouache_digest_start)] }
def DigestHexChangedSaid : Prop := digestHexChangedRow.holds Tryd.pinned (OpenSpec.ofChange digestHexChangedSpec)

/-- ITS FALSE NEIGHBOUR: 'it returns false'. Refute it at one input. -/
def digestHexChangedWrong : ChangeSpec := { name := "digestHexChanged", fn := fun _ => fun
  | [d1, d2, d3] => { results := [.lit (.bool false)], args := [d1, d2, d3] }
  | _ => none }
def DigestHexChangedWrongFalsely : Prop := digestHexChangedRow.holds Tryd.pinned (OpenSpec.ofChange digestHexChangedWrong)

/-- 'gouachelaw02.DigestLengths': WHATEVER THE INPUT: true; the input reads as it did. -/
def digestLengthsSpec : ChangeSpec := { name := "digestLengths", fn := fun _ => fun
  | [d1, d2] => { results := [.lit (.bool true)], args := [d1, d2] }
  | _ => none }
def digestLengthsRow : OpenClaim := { program := "ytpkonkkjihbgiaadoor", sum := "f97a428b8ec0a170a897294b0904e348635ac9ac145ddbfe07d7c9cca3965e90", func := "gouache/gouachelaw02.DigestLengths", spec := "digestLengths", inPlace := ["internal/bytealg.IndexByteString", "internal/abi.NoEscape", "internal/bytealg.MakeNoZero"], named := ["gouache/digest.start", "gouache/digest.round"], apart := false, laid := [("gouache/digest.round", laid_gouache_digest_round), ("gouache/digest.start", laid_gouache_digest_start)] }
def DigestLengthsSaid : Prop := digestLengthsRow.holds Tryd.pinned (OpenSpec.ofChange digestLengthsSpec)

/-- ITS FALSE NEIGHBOUR: 'it returns false'. Refute it at one input. -/
def digestLengthsWrong : ChangeSpec := { name := "digestLengths", fn := fun _ => fun
  | [d1, d2] => { results := [.lit (.bool false)], args := [d1, d2] }
  | _ => none }
def DigestLengthsWrongFalsely : Prop := digestLengthsRow.holds Tryd.pinned (OpenSpec.ofChange digestLengthsWrong)

/-- 'gouachelaw02.DigestVectors': WHATEVER THE INPUT: true; the input reads as it did. -/
def digestVectorsSpec : ChangeSpec := { name := "digestVectors", fn := fun _ => fun
  | [d1, d2] => { results := [.lit (.bool true)], args := [d1, d2] }
  | _ => none }
def digestVectorsRow : OpenClaim := { program := "ytpkonkkjihbgiaadoor", sum := "f97a428b8ec0a170a897294b0904e348635ac9ac145ddbfe07d7c9cca3965e90", func := "gouache/gouachelaw02.DigestVectors", spec := "digestVectors", inPlace := ["internal/bytealg.IndexByteString", "internal/abi.NoEscape", "internal/bytealg.MakeNoZero"], named := ["gouache/digest.start", "gouache/digest.round"], apart := false, laid := [("gouache/digest.round", laid_gouache_digest_round), ("gouache/digest.start", laid_gouache_digest_start)] }
def DigestVectorsSaid : Prop := digestVectorsRow.holds Tryd.pinned (OpenSpec.ofChange digestVectorsSpec)

/-- ITS FALSE NEIGHBOUR: 'it returns false'. Refute it at one input. -/
def digestVectorsWrong : ChangeSpec := { name := "digestVectors", fn := fun _ => fun
  | [d1, d2] => { results := [.lit (.bool false)], args := [d1, d2] }
  | _ => none }
def DigestVectorsWrongFalsely : Prop := digestVectorsRow.holds Tryd.pinned (OpenSpec.ofChange digestVectorsWrong)

/- THE SECOND FORM. 'bulk': how many values and letters a reading holds, each counted each time it is reached (what is shared counts as often as it is met; a slice's spare places count too). A statement '..UptoSaid' is the law's where the arguments, and the package variables that the reading takes, are together of bulk at most 1048576: NARROWER than '..Said'. Prove '..Said' where nothing that the law and all that it calls make is longer than what came in: it says more and counts as full. Else prove '..UptoSaid'. A law counts once. -/
mutual
def uptoBulk {H : Type} : DataW H → Nat
  | .lit (.string bytes) => bytes.length + 1
  | .lit _ => 1
  | .nil => 1
  | .ptr d => uptoBulk d + 1
  | .slice elems spare => uptoBulkAll elems + uptoBulkAll spare + 1
  | .agg parts => uptoBulkAll parts + 1
  | .iface _ d => uptoBulk d + 1
  | .map entries => uptoBulkEntries entries + 1
  | .held _ => 1
def uptoBulkAll {H : Type} : List (DataW H) → Nat
  | [] => 0
  | d :: r => uptoBulk d + uptoBulkAll r
def uptoBulkEntries {H : Type} : List (Lit × DataW H) → Nat
  | [] => 0
  | x :: r => uptoBulkEntry x + uptoBulkEntries r
def uptoBulkEntry {H : Type} : Lit × DataW H → Nat
  | (.string bytes, d) => bytes.length + uptoBulk d + 1
  | (_, d) => uptoBulk d + 1
 end
def uptoSmall : (H : Type) → List (DataW H) → Bool := fun _ ds => decide (uptoBulkAll ds ≤ 1048576)
def OpenSpec.upto (s : _root_.Go.ChangeSpec) : _root_.Go.OpenSpec := { _root_.Go.OpenSpec.ofChange s with cond := some uptoSmall }

/-- 'gouachelaw02.DigestOf', WHERE WHAT IT READS IS OF BULK AT MOST 1048576: true; the input reads as it did. -/
def digestOfUptoRow : OpenClaim := { program := "ytpkonkkjihbgiaadoor", sum := "f97a428b8ec0a170a897294b0904e348635ac9ac145ddbfe07d7c9cca3965e90", func := "gouache/gouachelaw02.DigestOf", spec := "digestOf", inPlace := ["internal/bytealg.IndexByteString", "internal/abi.NoEscape", "internal/bytealg.MakeNoZero"], named := ["gouache/digest.start", "gouache/digest.round"], apart := false, laid := [("gouache/digest.round", laid_gouache_digest_round), ("gouache/digest.start", laid_gouache_digest_start)], narrowed := true }
def DigestOfUptoSaid : Prop := digestOfUptoRow.holds Tryd.pinned (OpenSpec.upto digestOfSpec)

/-- 'gouachelaw02.DigestBlocks', WHERE WHAT IT READS IS OF BULK AT MOST 1048576: true; the input reads as it did. -/
def digestBlocksUptoRow : OpenClaim := { program := "ytpkonkkjihbgiaadoor", sum := "f97a428b8ec0a170a897294b0904e348635ac9ac145ddbfe07d7c9cca3965e90", func := "gouache/gouachelaw02.DigestBlocks", spec := "digestBlocks", inPlace := ["internal/bytealg.IndexByteString", "internal/abi.NoEscape", "internal/bytealg.MakeNoZero"], named := ["gouache/digest.start", "gouache/digest.round"], apart := false, laid := [("gouache/digest.round", laid_gouache_digest_round), ("gouache/digest.start", laid_gouache_digest_start)], narrowed := true }
def DigestBlocksUptoSaid : Prop := digestBlocksUptoRow.holds Tryd.pinned (OpenSpec.upto digestBlocksSpec)

/-- 'gouachelaw02.DigestJoin', WHERE WHAT IT READS IS OF BULK AT MOST 1048576: true; the input reads as it did. -/
def digestJoinUptoRow : OpenClaim := { program := "ytpkonkkjihbgiaadoor", sum := "f97a428b8ec0a170a897294b0904e348635ac9ac145ddbfe07d7c9cca3965e90", func := "gouache/gouachelaw02.DigestJoin", spec := "digestJoin", inPlace := ["internal/bytealg.IndexByteString", "internal/abi.NoEscape", "internal/bytealg.MakeNoZero"], named := ["gouache/digest.start", "gouache/digest.round"], apart := false, laid := [("gouache/digest.round", laid_gouache_digest_round), ("gouache/digest.start", laid_gouache_digest_start)], narrowed := true }
def DigestJoinUptoSaid : Prop := digestJoinUptoRow.holds Tryd.pinned (OpenSpec.upto digestJoinSpec)

/-- 'gouachelaw02.DigestPreimage', WHERE WHAT IT READS IS OF BULK AT MOST 1048576: true; the input reads as it did. -/
def digestPreimageUptoRow : OpenClaim := { program := "ytpkonkkjihbgiaadoor", sum := "f97a428b8ec0a170a897294b0904e348635ac9ac145ddbfe07d7c9cca3965e90", func := "gouache/gouachelaw02.DigestPreimage", spec := "digestPreimage", inPlace := ["internal/bytealg.IndexByteString", "internal/abi.NoEscape", "internal/bytealg.MakeNoZero"], named := ["gouache/digest.start", "gouache/digest.round"], apart := false, laid := [("gouache/digest.round", laid_gouache_digest_round), ("gouache/digest.start", laid_gouache_digest_start)], narrowed := true }
def DigestPreimageUptoSaid : Prop := digestPreimageUptoRow.holds Tryd.pinned (OpenSpec.upto digestPreimageSpec)

/-- 'gouachelaw02.DigestNested', WHERE WHAT IT READS IS OF BULK AT MOST 1048576: true; the input reads as it did. -/
def digestNestedUptoRow : OpenClaim := { program := "ytpkonkkjihbgiaadoor", sum := "f97a428b8ec0a170a897294b0904e348635ac9ac145ddbfe07d7c9cca3965e90", func := "gouache/gouachelaw02.DigestNested", spec := "digestNested", inPlace := ["internal/bytealg.IndexByteString", "internal/abi.NoEscape", "internal/bytealg.MakeNoZero"], named := ["gouache/digest.start", "gouache/digest.round"], apart := false, laid := [("gouache/digest.round", laid_gouache_digest_round), ("gouache/digest.start", laid_gouache_digest_start)], narrowed := true }
def DigestNestedUptoSaid : Prop := digestNestedUptoRow.holds Tryd.pinned (OpenSpec.upto digestNestedSpec)

/-- 'gouachelaw02.DigestHex', WHERE WHAT IT READS IS OF BULK AT MOST 1048576: true; the input reads as it did. -/
def digestHexUptoRow : OpenClaim := { program := "ytpkonkkjihbgiaadoor", sum := "f97a428b8ec0a170a897294b0904e348635ac9ac145ddbfe07d7c9cca3965e90", func := "gouache/gouachelaw02.DigestHex", spec := "digestHex", inPlace := ["internal/bytealg.IndexByteString", "internal/abi.NoEscape", "internal/bytealg.MakeNoZero"], named := ["gouache/digest.start", "gouache/digest.round"], apart := false, laid := [("gouache/digest.round", laid_gouache_digest_round), ("gouache/digest.start", laid_gouache_digest_start)], narrowed := true }
def DigestHexUptoSaid : Prop := digestHexUptoRow.holds Tryd.pinned (OpenSpec.upto digestHexSpec)

/-- 'gouachelaw02.DigestHexBack', WHERE WHAT IT READS IS OF BULK AT MOST 1048576: true; the input reads as it did. -/
def digestHexBackUptoRow : OpenClaim := { program := "ytpkonkkjihbgiaadoor", sum := "f97a428b8ec0a170a897294b0904e348635ac9ac145ddbfe07d7c9cca3965e90", func := "gouache/gouachelaw02.DigestHexBack", spec := "digestHexBack", inPlace := ["internal/bytealg.IndexByteString", "internal/abi.NoEscape", "internal/bytealg.MakeNoZero"], named := ["gouache/digest.start", "gouache/digest.round"], apart := false, laid := [("gouache/digest.round", laid_gouache_digest_round), ("gouache/digest.start", laid_gouache_digest_start)], narrowed := true }
def DigestHexBackUptoSaid : Prop := digestHexBackUptoRow.holds Tryd.pinned (OpenSpec.upto digestHexBackSpec)

/-- 'gouachelaw02.DigestHexChanged', WHERE WHAT IT READS IS OF BULK AT MOST 1048576: true; the input reads as it did. -/
def digestHexChangedUptoRow : OpenClaim := { program := "ytpkonkkjihbgiaadoor", sum := "f97a428b8ec0a170a897294b0904e348635ac9ac145ddbfe07d7c9cca3965e90", func := "gouache/gouachelaw02.DigestHexChanged", spec := "digestHexChanged", inPlace := ["internal/bytealg.IndexByteString", "internal/abi.NoEscape", "internal/bytealg.MakeNoZero"], named := ["gouache/digest.start", "gouache/digest.round"], apart := false, laid := [("gouache/digest.round", laid_gouache_digest_round), ("gouache/digest.start", laid_gouache_digest_start)], narrowed := true }
def DigestHexChangedUptoSaid : Prop := digestHexChangedUptoRow.holds Tryd.pinned (OpenSpec.upto digestHexChangedSpec)

/-- 'gouachelaw02.DigestLengths', WHERE WHAT IT READS IS OF BULK AT MOST 1048576: true; the input reads as it did. -/
def digestLengthsUptoRow : OpenClaim := { program := "ytpkonkkjihbgiaadoor", sum := "f97a428b8ec0a170a897294b0904e348635ac9ac145ddbfe07d7c9cca3965e90", func := "gouache/gouachelaw02.DigestLengths", spec := "digestLengths", inPlace := ["internal/bytealg.IndexByteString", "internal/abi.NoEscape", "internal/bytealg.MakeNoZero"], named := ["gouache/digest.start", "gouache/digest.round"], apart := false, laid := [("gouache/digest.round", laid_gouache_digest_round), ("gouache/digest.start", laid_gouache_digest_start)], narrowed := true }
def DigestLengthsUptoSaid : Prop := digestLengthsUptoRow.holds Tryd.pinned (OpenSpec.upto digestLengthsSpec)

/-- 'gouachelaw02.DigestVectors', WHERE WHAT IT READS IS OF BULK AT MOST 1048576: true; the input reads as it did. -/
def digestVectorsUptoRow : OpenClaim := { program := "ytpkonkkjihbgiaadoor", sum := "f97a428b8ec0a170a897294b0904e348635ac9ac145ddbfe07d7c9cca3965e90", func := "gouache/gouachelaw02.DigestVectors", spec := "digestVectors", inPlace := ["internal/bytealg.IndexByteString", "internal/abi.NoEscape", "internal/bytealg.MakeNoZero"], named := ["gouache/digest.start", "gouache/digest.round"], apart := false, laid := [("gouache/digest.round", laid_gouache_digest_round), ("gouache/digest.start", laid_gouache_digest_start)], narrowed := true }
def DigestVectorsUptoSaid : Prop := digestVectorsUptoRow.holds Tryd.pinned (OpenSpec.upto digestVectorsSpec)

end Rows
end Go.Proofs.YtpkonkkjihbgiaaDoor
