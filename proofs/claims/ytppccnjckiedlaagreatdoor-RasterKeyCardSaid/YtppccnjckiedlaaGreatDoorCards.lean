/-
  DERIVED. GIVEN WITH THE SEED: THE CARDS: each row of YtppccnjckiedlaaGreatDoorRows.lean that lists a variable, with what it lists TIED to the program's text (the seventh form; the later family's looks); each row that meets fmt, with fmt's text TOLD by the authors' own Lean function (tested against real Go, not proved from fmt's source: count such statements apart). THE CARD IS WHAT COUNTS. Prove the row's statement (the work); the ties are given (YtppccnjckiedlaaGreatDoorTie.lean); close each card by the builder's one call (the guide's Derived/Test/ToyasCard.lean, 'card_holds'). Laid BY PROGRAM, IN A SANDBOX (cutbox-door.mjs). By AI agents, Wed Nov 11 2026. No macro, syntax, notation, axiom, sorry.
-/
import Derived.Test.YtppccnjckiedlaaGreatDoorRows
import GoSem.ClaimSeven
namespace Go.Proofs.YtppccnjckiedlaaGreatDoor
namespace Rows

/-- THE TIED CARD OF 'gouachelaw08.RasterKey'. -/
def rasterKeyCard : Claim7 := { stood := { row := rasterKeyRow, standIns := [], harness := (true, "8ee7c004475299092185ea6bba3f7ffaf5ce6acb18c74e9d4c731e239436dcd9"), looks := false }, kinds := [], alts := [], laidByText := true, laidKinds := [.data, .data], laidTests := true, laidLooks := .later }
def RasterKeyCardSaid : Prop := Claim7.holds Tryz.pinned (.plain (OpenSpec.ofChange rasterKeySpec)) rasterKeyCard

/-- THE SECOND FORM's CARD OF 'gouachelaw08.RasterKey'. -/
def rasterKeyUptoCard : Claim7 := { stood := { row := rasterKeyUptoRow, standIns := [], harness := (true, "8ee7c004475299092185ea6bba3f7ffaf5ce6acb18c74e9d4c731e239436dcd9"), looks := false }, kinds := [], alts := [], laidByText := true, laidKinds := [.data, .data], laidTests := true, laidLooks := .later }
def RasterKeyUptoCardSaid : Prop := Claim7.holds Tryz.pinned (.plain (OpenSpec.upto rasterKeySpec)) rasterKeyUptoCard
end Rows
end Go.Proofs.YtppccnjckiedlaaGreatDoor
