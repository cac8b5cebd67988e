/-
  DERIVED. GIVEN WITH THE SEED: THE CARDS: each row of YtabebkffcmajkaaGreatDoorRows.lean that lists a variable, with what it lists TIED to the program's text (the seventh form; the later family's looks); each row that meets fmt, with fmt's text TOLD by the authors' own Lean function (tested against real Go, not proved from fmt's source: count such statements apart). THE CARD IS WHAT COUNTS. Prove the row's statement (the work); the ties are given (YtabebkffcmajkaaGreatDoorTie.lean); close each card by the builder's one call (the guide's Derived/Test/ToyasCard.lean, 'card_holds'). Laid BY PROGRAM, IN A SANDBOX (cutbox-door.mjs). By AI agents, Wed Nov 11 2026. No macro, syntax, notation, axiom, sorry.
-/
import Derived.Test.YtabebkffcmajkaaGreatDoorRows
import GoSem.ClaimSeven
namespace Go.Proofs.YtabebkffcmajkaaGreatDoor
namespace Rows

/-- THE TIED CARD OF 'furrowlaw09.InodeAll'. -/
def inodeAllCard : Claim7 := { stood := { row := inodeAllRow, standIns := [], harness := (true, "60d0fce1ce17621adaf4d3e1c5234bd9dff4ef4d60c28234efffd911ee266e93"), looks := true }, kinds := [], alts := [], laidByText := true, laidKinds := [.data], laidTests := true, laidLooks := .later }
def InodeAllCardSaid : Prop := Claim7.holds Tryz.pinned (.plain (OpenSpec.ofChange inodeAllSpec)) inodeAllCard

/-- THE SECOND FORM's CARD OF 'furrowlaw09.InodeAll'. -/
def inodeAllUptoCard : Claim7 := { stood := { row := inodeAllUptoRow, standIns := [], harness := (true, "60d0fce1ce17621adaf4d3e1c5234bd9dff4ef4d60c28234efffd911ee266e93"), looks := true }, kinds := [], alts := [], laidByText := true, laidKinds := [.data], laidTests := true, laidLooks := .later }
def InodeAllUptoCardSaid : Prop := Claim7.holds Tryz.pinned (.plain (OpenSpec.upto inodeAllSpec)) inodeAllUptoCard
end Rows
end Go.Proofs.YtabebkffcmajkaaGreatDoor
