/-
  DERIVED. GIVEN WITH THE SEED: THE CARDS: each row of YtepelndbbhdofaaGreatDoorRows.lean that lists a variable, with what it lists TIED to the program's text (the seventh form; the later family's looks); each row that meets fmt, with fmt's text TOLD by the authors' own Lean function (tested against real Go, not proved from fmt's source: count such statements apart). THE CARD IS WHAT COUNTS. Prove the row's statement (the work); the ties are given (YtepelndbbhdofaaGreatDoorTie.lean); close each card by the builder's one call (the guide's Derived/Test/ToyasCard.lean, 'card_holds'). Laid BY PROGRAM, IN A SANDBOX (cutbox-door.mjs). By AI agents, Wed Nov 11 2026. No macro, syntax, notation, axiom, sorry.
-/
import Derived.Test.YtepelndbbhdofaaGreatDoorRows
import GoSem.ClaimSeven
namespace Go.Proofs.YtepelndbbhdofaaGreatDoor
namespace Rows

/-- THE TIED CARD OF 'gouachelaw14.StrokeDabs'. -/
def strokeDabsCard : Claim7 := { stood := { row := strokeDabsRow, standIns := [], harness := (true, "432ae5fcde3947ef2e400613ba4cc194149eafbe145c213f6f095139ea69ee4f"), looks := false }, kinds := [], alts := [], laidByText := true, laidKinds := [.data], laidTests := true, laidLooks := .later }
def StrokeDabsCardSaid : Prop := Claim7.holds Tryz.pinned (.plain (OpenSpec.ofChange strokeDabsSpec)) strokeDabsCard

/-- THE TIED CARD OF 'gouachelaw14.StrokeCount'. -/
def strokeCountCard : Claim7 := { stood := { row := strokeCountRow, standIns := [], harness := (true, "432ae5fcde3947ef2e400613ba4cc194149eafbe145c213f6f095139ea69ee4f"), looks := false }, kinds := [], alts := [], laidByText := true, laidKinds := [.data], laidTests := true, laidLooks := .later }
def StrokeCountCardSaid : Prop := Claim7.holds Tryz.pinned (.plain (OpenSpec.ofChange strokeCountSpec)) strokeCountCard

/-- THE TIED CARD OF 'gouachelaw14.StrokeDisk'. -/
def strokeDiskCard : Claim7 := { stood := { row := strokeDiskRow, standIns := [], harness := (true, "432ae5fcde3947ef2e400613ba4cc194149eafbe145c213f6f095139ea69ee4f"), looks := false }, kinds := [], alts := [], laidByText := true, laidKinds := [.data], laidTests := true, laidLooks := .later }
def StrokeDiskCardSaid : Prop := Claim7.holds Tryz.pinned (.plain (OpenSpec.ofChange strokeDiskSpec)) strokeDiskCard

/-- THE TIED CARD OF 'gouachelaw14.StrokeSplit'. -/
def strokeSplitCard : Claim7 := { stood := { row := strokeSplitRow, standIns := [], harness := (true, "432ae5fcde3947ef2e400613ba4cc194149eafbe145c213f6f095139ea69ee4f"), looks := false }, kinds := [], alts := [], laidByText := true, laidKinds := [.data], laidTests := true, laidLooks := .later }
def StrokeSplitCardSaid : Prop := Claim7.holds Tryz.pinned (.plain (OpenSpec.ofChange strokeSplitSpec)) strokeSplitCard

/-- THE TIED CARD OF 'gouachelaw14.StrokeErase'. -/
def strokeEraseCard : Claim7 := { stood := { row := strokeEraseRow, standIns := [], harness := (true, "432ae5fcde3947ef2e400613ba4cc194149eafbe145c213f6f095139ea69ee4f"), looks := false }, kinds := [], alts := [], laidByText := true, laidKinds := [.data], laidTests := true, laidLooks := .later }
def StrokeEraseCardSaid : Prop := Claim7.holds Tryz.pinned (.plain (OpenSpec.ofChange strokeEraseSpec)) strokeEraseCard

/-- THE TIED CARD OF 'gouachelaw14.StrokeBytes'. -/
def strokeBytesCard : Claim7 := { stood := { row := strokeBytesRow, standIns := [], harness := (true, "432ae5fcde3947ef2e400613ba4cc194149eafbe145c213f6f095139ea69ee4f"), looks := false }, kinds := [], alts := [], laidByText := true, laidKinds := [.data], laidTests := true, laidLooks := .later }
def StrokeBytesCardSaid : Prop := Claim7.holds Tryz.pinned (.plain (OpenSpec.ofChange strokeBytesSpec)) strokeBytesCard

/-- THE TIED CARD OF 'gouachelaw14.StrokePaint'. -/
def strokePaintCard : Claim7 := { stood := { row := strokePaintRow, standIns := [], harness := (true, "432ae5fcde3947ef2e400613ba4cc194149eafbe145c213f6f095139ea69ee4f"), looks := false }, kinds := [], alts := [], laidByText := true, laidKinds := [.data], laidTests := true, laidLooks := .later }
def StrokePaintCardSaid : Prop := Claim7.holds Tryz.pinned (.plain (OpenSpec.ofChange strokePaintSpec)) strokePaintCard

/-- THE TIED CARD OF 'gouachelaw14.StrokeShift'. -/
def strokeShiftCard : Claim7 := { stood := { row := strokeShiftRow, standIns := [], harness := (true, "432ae5fcde3947ef2e400613ba4cc194149eafbe145c213f6f095139ea69ee4f"), looks := false }, kinds := [], alts := [], laidByText := true, laidKinds := [.data], laidTests := true, laidLooks := .later }
def StrokeShiftCardSaid : Prop := Claim7.holds Tryz.pinned (.plain (OpenSpec.ofChange strokeShiftSpec)) strokeShiftCard

/-- THE TIED CARD OF 'gouachelaw14.StrokeHalves'. -/
def strokeHalvesCard : Claim7 := { stood := { row := strokeHalvesRow, standIns := [], harness := (true, "432ae5fcde3947ef2e400613ba4cc194149eafbe145c213f6f095139ea69ee4f"), looks := false }, kinds := [], alts := [], laidByText := true, laidKinds := [.data], laidTests := true, laidLooks := .later }
def StrokeHalvesCardSaid : Prop := Claim7.holds Tryz.pinned (.plain (OpenSpec.ofChange strokeHalvesSpec)) strokeHalvesCard

/-- THE TIED CARD OF 'gouachelaw14.StrokeArea'. -/
def strokeAreaCard : Claim7 := { stood := { row := strokeAreaRow, standIns := [], harness := (true, "432ae5fcde3947ef2e400613ba4cc194149eafbe145c213f6f095139ea69ee4f"), looks := false }, kinds := [], alts := [], laidByText := true, laidKinds := [.data], laidTests := true, laidLooks := .later }
def StrokeAreaCardSaid : Prop := Claim7.holds Tryz.pinned (.plain (OpenSpec.ofChange strokeAreaSpec)) strokeAreaCard

/-- THE SECOND FORM's CARD OF 'gouachelaw14.StrokeDabs'. -/
def strokeDabsUptoCard : Claim7 := { stood := { row := strokeDabsUptoRow, standIns := [], harness := (true, "432ae5fcde3947ef2e400613ba4cc194149eafbe145c213f6f095139ea69ee4f"), looks := false }, kinds := [], alts := [], laidByText := true, laidKinds := [.data], laidTests := true, laidLooks := .later }
def StrokeDabsUptoCardSaid : Prop := Claim7.holds Tryz.pinned (.plain (OpenSpec.upto strokeDabsSpec)) strokeDabsUptoCard

/-- THE SECOND FORM's CARD OF 'gouachelaw14.StrokeCount'. -/
def strokeCountUptoCard : Claim7 := { stood := { row := strokeCountUptoRow, standIns := [], harness := (true, "432ae5fcde3947ef2e400613ba4cc194149eafbe145c213f6f095139ea69ee4f"), looks := false }, kinds := [], alts := [], laidByText := true, laidKinds := [.data], laidTests := true, laidLooks := .later }
def StrokeCountUptoCardSaid : Prop := Claim7.holds Tryz.pinned (.plain (OpenSpec.upto strokeCountSpec)) strokeCountUptoCard

/-- THE SECOND FORM's CARD OF 'gouachelaw14.StrokeDisk'. -/
def strokeDiskUptoCard : Claim7 := { stood := { row := strokeDiskUptoRow, standIns := [], harness := (true, "432ae5fcde3947ef2e400613ba4cc194149eafbe145c213f6f095139ea69ee4f"), looks := false }, kinds := [], alts := [], laidByText := true, laidKinds := [.data], laidTests := true, laidLooks := .later }
def StrokeDiskUptoCardSaid : Prop := Claim7.holds Tryz.pinned (.plain (OpenSpec.upto strokeDiskSpec)) strokeDiskUptoCard

/-- THE SECOND FORM's CARD OF 'gouachelaw14.StrokeSplit'. -/
def strokeSplitUptoCard : Claim7 := { stood := { row := strokeSplitUptoRow, standIns := [], harness := (true, "432ae5fcde3947ef2e400613ba4cc194149eafbe145c213f6f095139ea69ee4f"), looks := false }, kinds := [], alts := [], laidByText := true, laidKinds := [.data], laidTests := true, laidLooks := .later }
def StrokeSplitUptoCardSaid : Prop := Claim7.holds Tryz.pinned (.plain (OpenSpec.upto strokeSplitSpec)) strokeSplitUptoCard

/-- THE SECOND FORM's CARD OF 'gouachelaw14.StrokeErase'. -/
def strokeEraseUptoCard : Claim7 := { stood := { row := strokeEraseUptoRow, standIns := [], harness := (true, "432ae5fcde3947ef2e400613ba4cc194149eafbe145c213f6f095139ea69ee4f"), looks := false }, kinds := [], alts := [], laidByText := true, laidKinds := [.data], laidTests := true, laidLooks := .later }
def StrokeEraseUptoCardSaid : Prop := Claim7.holds Tryz.pinned (.plain (OpenSpec.upto strokeEraseSpec)) strokeEraseUptoCard

/-- THE SECOND FORM's CARD OF 'gouachelaw14.StrokeBytes'. -/
def strokeBytesUptoCard : Claim7 := { stood := { row := strokeBytesUptoRow, standIns := [], harness := (true, "432ae5fcde3947ef2e400613ba4cc194149eafbe145c213f6f095139ea69ee4f"), looks := false }, kinds := [], alts := [], laidByText := true, laidKinds := [.data], laidTests := true, laidLooks := .later }
def StrokeBytesUptoCardSaid : Prop := Claim7.holds Tryz.pinned (.plain (OpenSpec.upto strokeBytesSpec)) strokeBytesUptoCard

/-- THE SECOND FORM's CARD OF 'gouachelaw14.StrokePaint'. -/
def strokePaintUptoCard : Claim7 := { stood := { row := strokePaintUptoRow, standIns := [], harness := (true, "432ae5fcde3947ef2e400613ba4cc194149eafbe145c213f6f095139ea69ee4f"), looks := false }, kinds := [], alts := [], laidByText := true, laidKinds := [.data], laidTests := true, laidLooks := .later }
def StrokePaintUptoCardSaid : Prop := Claim7.holds Tryz.pinned (.plain (OpenSpec.upto strokePaintSpec)) strokePaintUptoCard

/-- THE SECOND FORM's CARD OF 'gouachelaw14.StrokeShift'. -/
def strokeShiftUptoCard : Claim7 := { stood := { row := strokeShiftUptoRow, standIns := [], harness := (true, "432ae5fcde3947ef2e400613ba4cc194149eafbe145c213f6f095139ea69ee4f"), looks := false }, kinds := [], alts := [], laidByText := true, laidKinds := [.data], laidTests := true, laidLooks := .later }
def StrokeShiftUptoCardSaid : Prop := Claim7.holds Tryz.pinned (.plain (OpenSpec.upto strokeShiftSpec)) strokeShiftUptoCard

/-- THE SECOND FORM's CARD OF 'gouachelaw14.StrokeHalves'. -/
def strokeHalvesUptoCard : Claim7 := { stood := { row := strokeHalvesUptoRow, standIns := [], harness := (true, "432ae5fcde3947ef2e400613ba4cc194149eafbe145c213f6f095139ea69ee4f"), looks := false }, kinds := [], alts := [], laidByText := true, laidKinds := [.data], laidTests := true, laidLooks := .later }
def StrokeHalvesUptoCardSaid : Prop := Claim7.holds Tryz.pinned (.plain (OpenSpec.upto strokeHalvesSpec)) strokeHalvesUptoCard

/-- THE SECOND FORM's CARD OF 'gouachelaw14.StrokeArea'. -/
def strokeAreaUptoCard : Claim7 := { stood := { row := strokeAreaUptoRow, standIns := [], harness := (true, "432ae5fcde3947ef2e400613ba4cc194149eafbe145c213f6f095139ea69ee4f"), looks := false }, kinds := [], alts := [], laidByText := true, laidKinds := [.data], laidTests := true, laidLooks := .later }
def StrokeAreaUptoCardSaid : Prop := Claim7.holds Tryz.pinned (.plain (OpenSpec.upto strokeAreaSpec)) strokeAreaUptoCard
end Rows
end Go.Proofs.YtepelndbbhdofaaGreatDoor
