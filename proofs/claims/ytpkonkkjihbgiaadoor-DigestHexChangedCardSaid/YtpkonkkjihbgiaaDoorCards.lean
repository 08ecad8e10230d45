/-
  DERIVED. GIVEN WITH THE SEED: THE CARDS: each row of YtpkonkkjihbgiaaDoorRows.lean that lists a variable, with what it lists TIED to the program's text (the seventh form; the later family's looks); each row that meets fmt, with fmt's text TOLD by the authors' own Lean function (tested against real Go, not proved from fmt's source: count such statements apart). THE CARD IS WHAT COUNTS. Prove the row's statement (the work); the ties are given (YtpkonkkjihbgiaaDoorTie.lean); close each card by the builder's one call (the guide's Derived/Test/ToyasCard.lean, 'card_holds'). Laid BY PROGRAM, IN A SANDBOX (cutbox-door.mjs). By AI agents, Wed Nov 11 2026. No macro, syntax, notation, axiom, sorry.
-/
import Derived.Test.YtpkonkkjihbgiaaDoorRows
import GoSem.ClaimSeven
namespace Go.Proofs.YtpkonkkjihbgiaaDoor
namespace Rows

/-- THE TIED CARD OF 'gouachelaw02.DigestOf'. -/
def digestOfCard : Claim7 := { stood := { row := digestOfRow, standIns := [], harness := (true, "0f3915525fc44657fce55ebaa77f0deb762ba260397f9dc864d1eb80dc216193"), looks := false }, kinds := [], alts := [], laidByText := true, laidKinds := [.data, .data], laidTests := true, laidLooks := .later }
def DigestOfCardSaid : Prop := Claim7.holds Tryd.pinned (.plain (OpenSpec.ofChange digestOfSpec)) digestOfCard

/-- THE TIED CARD OF 'gouachelaw02.DigestBlocks'. -/
def digestBlocksCard : Claim7 := { stood := { row := digestBlocksRow, standIns := [], harness := (true, "0f3915525fc44657fce55ebaa77f0deb762ba260397f9dc864d1eb80dc216193"), looks := false }, kinds := [], alts := [], laidByText := true, laidKinds := [.data, .data], laidTests := true, laidLooks := .later }
def DigestBlocksCardSaid : Prop := Claim7.holds Tryd.pinned (.plain (OpenSpec.ofChange digestBlocksSpec)) digestBlocksCard

/-- THE TIED CARD OF 'gouachelaw02.DigestJoin'. -/
def digestJoinCard : Claim7 := { stood := { row := digestJoinRow, standIns := [], harness := (true, "0f3915525fc44657fce55ebaa77f0deb762ba260397f9dc864d1eb80dc216193"), looks := false }, kinds := [], alts := [], laidByText := true, laidKinds := [.data, .data], laidTests := true, laidLooks := .later }
def DigestJoinCardSaid : Prop := Claim7.holds Tryd.pinned (.plain (OpenSpec.ofChange digestJoinSpec)) digestJoinCard

/-- THE TIED CARD OF 'gouachelaw02.DigestPreimage'. -/
def digestPreimageCard : Claim7 := { stood := { row := digestPreimageRow, standIns := [], harness := (true, "0f3915525fc44657fce55ebaa77f0deb762ba260397f9dc864d1eb80dc216193"), looks := false }, kinds := [], alts := [], laidByText := true, laidKinds := [.data, .data], laidTests := true, laidLooks := .later }
def DigestPreimageCardSaid : Prop := Claim7.holds Tryd.pinned (.plain (OpenSpec.ofChange digestPreimageSpec)) digestPreimageCard

/-- THE TIED CARD OF 'gouachelaw02.DigestNested'. -/
def digestNestedCard : Claim7 := { stood := { row := digestNestedRow, standIns := [], harness := (true, "0f3915525fc44657fce55ebaa77f0deb762ba260397f9dc864d1eb80dc216193"), looks := false }, kinds := [], alts := [], laidByText := true, laidKinds := [.data, .data], laidTests := true, laidLooks := .later }
def DigestNestedCardSaid : Prop := Claim7.holds Tryd.pinned (.plain (OpenSpec.ofChange digestNestedSpec)) digestNestedCard

/-- THE TIED CARD OF 'gouachelaw02.DigestHex'. -/
def digestHexCard : Claim7 := { stood := { row := digestHexRow, standIns := [], harness := (true, "0f3915525fc44657fce55ebaa77f0deb762ba260397f9dc864d1eb80dc216193"), looks := false }, kinds := [], alts := [], laidByText := true, laidKinds := [.data, .data], laidTests := true, laidLooks := .later }
def DigestHexCardSaid : Prop := Claim7.holds Tryd.pinned (.plain (OpenSpec.ofChange digestHexSpec)) digestHexCard

/-- THE TIED CARD OF 'gouachelaw02.DigestHexBack'. -/
def digestHexBackCard : Claim7 := { stood := { row := digestHexBackRow, standIns := [], harness := (true, "0f3915525fc44657fce55ebaa77f0deb762ba260397f9dc864d1eb80dc216193"), looks := false }, kinds := [], alts := [], laidByText := true, laidKinds := [.data, .data], laidTests := true, laidLooks := .later }
def DigestHexBackCardSaid : Prop := Claim7.holds Tryd.pinned (.plain (OpenSpec.ofChange digestHexBackSpec)) digestHexBackCard

/-- THE TIED CARD OF 'gouachelaw02.DigestHexChanged'. -/
def digestHexChangedCard : Claim7 := { stood := { row := digestHexChangedRow, standIns := [], harness := (true, "0f3915525fc44657fce55ebaa77f0deb762ba260397f9dc864d1eb80dc216193"), looks := false }, kinds := [], alts := [], laidByText := true, laidKinds := [.data, .data], laidTests := true, laidLooks := .later }
def DigestHexChangedCardSaid : Prop := Claim7.holds Tryd.pinned (.plain (OpenSpec.ofChange digestHexChangedSpec)) digestHexChangedCard

/-- THE TIED CARD OF 'gouachelaw02.DigestLengths'. -/
def digestLengthsCard : Claim7 := { stood := { row := digestLengthsRow, standIns := [], harness := (true, "0f3915525fc44657fce55ebaa77f0deb762ba260397f9dc864d1eb80dc216193"), looks := false }, kinds := [], alts := [], laidByText := true, laidKinds := [.data, .data], laidTests := true, laidLooks := .later }
def DigestLengthsCardSaid : Prop := Claim7.holds Tryd.pinned (.plain (OpenSpec.ofChange digestLengthsSpec)) digestLengthsCard

/-- THE TIED CARD OF 'gouachelaw02.DigestVectors'. -/
def digestVectorsCard : Claim7 := { stood := { row := digestVectorsRow, standIns := [], harness := (true, "0f3915525fc44657fce55ebaa77f0deb762ba260397f9dc864d1eb80dc216193"), looks := false }, kinds := [], alts := [], laidByText := true, laidKinds := [.data, .data], laidTests := true, laidLooks := .later }
def DigestVectorsCardSaid : Prop := Claim7.holds Tryd.pinned (.plain (OpenSpec.ofChange digestVectorsSpec)) digestVectorsCard

/-- THE SECOND FORM's CARD OF 'gouachelaw02.DigestOf'. -/
def digestOfUptoCard : Claim7 := { stood := { row := digestOfUptoRow, standIns := [], harness := (true, "0f3915525fc44657fce55ebaa77f0deb762ba260397f9dc864d1eb80dc216193"), looks := false }, kinds := [], alts := [], laidByText := true, laidKinds := [.data, .data], laidTests := true, laidLooks := .later }
def DigestOfUptoCardSaid : Prop := Claim7.holds Tryd.pinned (.plain (OpenSpec.upto digestOfSpec)) digestOfUptoCard

/-- THE SECOND FORM's CARD OF 'gouachelaw02.DigestBlocks'. -/
def digestBlocksUptoCard : Claim7 := { stood := { row := digestBlocksUptoRow, standIns := [], harness := (true, "0f3915525fc44657fce55ebaa77f0deb762ba260397f9dc864d1eb80dc216193"), looks := false }, kinds := [], alts := [], laidByText := true, laidKinds := [.data, .data], laidTests := true, laidLooks := .later }
def DigestBlocksUptoCardSaid : Prop := Claim7.holds Tryd.pinned (.plain (OpenSpec.upto digestBlocksSpec)) digestBlocksUptoCard

/-- THE SECOND FORM's CARD OF 'gouachelaw02.DigestJoin'. -/
def digestJoinUptoCard : Claim7 := { stood := { row := digestJoinUptoRow, standIns := [], harness := (true, "0f3915525fc44657fce55ebaa77f0deb762ba260397f9dc864d1eb80dc216193"), looks := false }, kinds := [], alts := [], laidByText := true, laidKinds := [.data, .data], laidTests := true, laidLooks := .later }
def DigestJoinUptoCardSaid : Prop := Claim7.holds Tryd.pinned (.plain (OpenSpec.upto digestJoinSpec)) digestJoinUptoCard

/-- THE SECOND FORM's CARD OF 'gouachelaw02.DigestPreimage'. -/
def digestPreimageUptoCard : Claim7 := { stood := { row := digestPreimageUptoRow, standIns := [], harness := (true, "0f3915525fc44657fce55ebaa77f0deb762ba260397f9dc864d1eb80dc216193"), looks := false }, kinds := [], alts := [], laidByText := true, laidKinds := [.data, .data], laidTests := true, laidLooks := .later }
def DigestPreimageUptoCardSaid : Prop := Claim7.holds Tryd.pinned (.plain (OpenSpec.upto digestPreimageSpec)) digestPreimageUptoCard

/-- THE SECOND FORM's CARD OF 'gouachelaw02.DigestNested'. -/
def digestNestedUptoCard : Claim7 := { stood := { row := digestNestedUptoRow, standIns := [], harness := (true, "0f3915525fc44657fce55ebaa77f0deb762ba260397f9dc864d1eb80dc216193"), looks := false }, kinds := [], alts := [], laidByText := true, laidKinds := [.data, .data], laidTests := true, laidLooks := .later }
def DigestNestedUptoCardSaid : Prop := Claim7.holds Tryd.pinned (.plain (OpenSpec.upto digestNestedSpec)) digestNestedUptoCard

/-- THE SECOND FORM's CARD OF 'gouachelaw02.DigestHex'. -/
def digestHexUptoCard : Claim7 := { stood := { row := digestHexUptoRow, standIns := [], harness := (true, "0f3915525fc44657fce55ebaa77f0deb762ba260397f9dc864d1eb80dc216193"), looks := false }, kinds := [], alts := [], laidByText := true, laidKinds := [.data, .data], laidTests := true, laidLooks := .later }
def DigestHexUptoCardSaid : Prop := Claim7.holds Tryd.pinned (.plain (OpenSpec.upto digestHexSpec)) digestHexUptoCard

/-- THE SECOND FORM's CARD OF 'gouachelaw02.DigestHexBack'. -/
def digestHexBackUptoCard : Claim7 := { stood := { row := digestHexBackUptoRow, standIns := [], harness := (true, "0f3915525fc44657fce55ebaa77f0deb762ba260397f9dc864d1eb80dc216193"), looks := false }, kinds := [], alts := [], laidByText := true, laidKinds := [.data, .data], laidTests := true, laidLooks := .later }
def DigestHexBackUptoCardSaid : Prop := Claim7.holds Tryd.pinned (.plain (OpenSpec.upto digestHexBackSpec)) digestHexBackUptoCard

/-- THE SECOND FORM's CARD OF 'gouachelaw02.DigestHexChanged'. -/
def digestHexChangedUptoCard : Claim7 := { stood := { row := digestHexChangedUptoRow, standIns := [], harness := (true, "0f3915525fc44657fce55ebaa77f0deb762ba260397f9dc864d1eb80dc216193"), looks := false }, kinds := [], alts := [], laidByText := true, laidKinds := [.data, .data], laidTests := true, laidLooks := .later }
def DigestHexChangedUptoCardSaid : Prop := Claim7.holds Tryd.pinned (.plain (OpenSpec.upto digestHexChangedSpec)) digestHexChangedUptoCard

/-- THE SECOND FORM's CARD OF 'gouachelaw02.DigestLengths'. -/
def digestLengthsUptoCard : Claim7 := { stood := { row := digestLengthsUptoRow, standIns := [], harness := (true, "0f3915525fc44657fce55ebaa77f0deb762ba260397f9dc864d1eb80dc216193"), looks := false }, kinds := [], alts := [], laidByText := true, laidKinds := [.data, .data], laidTests := true, laidLooks := .later }
def DigestLengthsUptoCardSaid : Prop := Claim7.holds Tryd.pinned (.plain (OpenSpec.upto digestLengthsSpec)) digestLengthsUptoCard

/-- THE SECOND FORM's CARD OF 'gouachelaw02.DigestVectors'. -/
def digestVectorsUptoCard : Claim7 := { stood := { row := digestVectorsUptoRow, standIns := [], harness := (true, "0f3915525fc44657fce55ebaa77f0deb762ba260397f9dc864d1eb80dc216193"), looks := false }, kinds := [], alts := [], laidByText := true, laidKinds := [.data, .data], laidTests := true, laidLooks := .later }
def DigestVectorsUptoCardSaid : Prop := Claim7.holds Tryd.pinned (.plain (OpenSpec.upto digestVectorsSpec)) digestVectorsUptoCard
end Rows
end Go.Proofs.YtpkonkkjihbgiaaDoor
