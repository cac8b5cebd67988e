/-
  DERIVED. GIVEN WITH THE SEED: THE CARDS: each row of YtabebkffcmajkaaDoorRows.lean that lists a variable, with what it lists TIED to the program's text (the seventh form; the later family's looks); each row that meets fmt, with fmt's text TOLD by the authors' own Lean function (tested against real Go, not proved from fmt's source: count such statements apart). THE CARD IS WHAT COUNTS. Prove the row's statement (the work); the ties are given (YtabebkffcmajkaaDoorTie.lean); close each card by the builder's one call (the guide's Derived/Test/ToyasCard.lean, 'card_holds'). Laid BY PROGRAM, IN A SANDBOX (cutbox-door.mjs). By AI agents, Wed Nov 11 2026. No macro, syntax, notation, axiom, sorry.
-/
import Derived.Test.YtabebkffcmajkaaDoorRows
import GoSem.ClaimSeven
namespace Go.Proofs.YtabebkffcmajkaaDoor
namespace Rows

/-- THE TIED CARD OF 'furrowlaw09.InodeReplays'. -/
def inodeReplaysCard : Claim7 := { stood := { row := inodeReplaysRow, standIns := [], harness := (true, "11181078f9969a06cada723cf73466153a5b6462ab89ed4e61351cb55254949c"), looks := true }, kinds := [], alts := [], laidByText := true, laidKinds := [.data], laidTests := true, laidLooks := .later }
def InodeReplaysCardSaid : Prop := Claim7.holds Tryd.pinned (.plain (OpenSpec.ofChange inodeReplaysSpec)) inodeReplaysCard

/-- THE TIED CARD OF 'furrowlaw09.InodeFiles'. -/
def inodeFilesCard : Claim7 := { stood := { row := inodeFilesRow, standIns := [], harness := (true, "11181078f9969a06cada723cf73466153a5b6462ab89ed4e61351cb55254949c"), looks := true }, kinds := [], alts := [], laidByText := true, laidKinds := [.data], laidTests := true, laidLooks := .later }
def InodeFilesCardSaid : Prop := Claim7.holds Tryd.pinned (.plain (OpenSpec.ofChange inodeFilesSpec)) inodeFilesCard

/-- THE TIED CARD OF 'furrowlaw09.InodeApplies'. -/
def inodeAppliesCard : Claim7 := { stood := { row := inodeAppliesRow, standIns := [], harness := (true, "11181078f9969a06cada723cf73466153a5b6462ab89ed4e61351cb55254949c"), looks := true }, kinds := [], alts := [], laidByText := true, laidKinds := [.data], laidTests := true, laidLooks := .later }
def InodeAppliesCardSaid : Prop := Claim7.holds Tryd.pinned (.plain (OpenSpec.ofChange inodeAppliesSpec)) inodeAppliesCard

/-- THE TIED CARD OF 'furrowlaw09.InodeDirectories'. -/
def inodeDirectoriesCard : Claim7 := { stood := { row := inodeDirectoriesRow, standIns := [], harness := (true, "11181078f9969a06cada723cf73466153a5b6462ab89ed4e61351cb55254949c"), looks := true }, kinds := [], alts := [], laidByText := true, laidKinds := [.data], laidTests := true, laidLooks := .later }
def InodeDirectoriesCardSaid : Prop := Claim7.holds Tryd.pinned (.plain (OpenSpec.ofChange inodeDirectoriesSpec)) inodeDirectoriesCard

/-- THE TIED CARD OF 'furrowlaw09.InodeSteps'. -/
def inodeStepsCard : Claim7 := { stood := { row := inodeStepsRow, standIns := [], harness := (true, "11181078f9969a06cada723cf73466153a5b6462ab89ed4e61351cb55254949c"), looks := true }, kinds := [], alts := [], laidByText := true, laidKinds := [.data], laidTests := true, laidLooks := .later }
def InodeStepsCardSaid : Prop := Claim7.holds Tryd.pinned (.plain (OpenSpec.ofChange inodeStepsSpec)) inodeStepsCard

/-- THE TIED CARD OF 'furrowlaw09.InodeCuts'. -/
def inodeCutsCard : Claim7 := { stood := { row := inodeCutsRow, standIns := [], harness := (true, "11181078f9969a06cada723cf73466153a5b6462ab89ed4e61351cb55254949c"), looks := true }, kinds := [], alts := [], laidByText := true, laidKinds := [.data], laidTests := true, laidLooks := .later }
def InodeCutsCardSaid : Prop := Claim7.holds Tryd.pinned (.plain (OpenSpec.ofChange inodeCutsSpec)) inodeCutsCard

/-- THE TIED CARD OF 'furrowlaw09.InodeCanonMeans'. -/
def inodeCanonMeansCard : Claim7 := { stood := { row := inodeCanonMeansRow, standIns := [], harness := (true, "11181078f9969a06cada723cf73466153a5b6462ab89ed4e61351cb55254949c"), looks := true }, kinds := [], alts := [], laidByText := true, laidKinds := [.data], laidTests := true, laidLooks := .later }
def InodeCanonMeansCardSaid : Prop := Claim7.holds Tryd.pinned (.plain (OpenSpec.ofChange inodeCanonMeansSpec)) inodeCanonMeansCard

/-- THE TIED CARD OF 'furrowlaw09.InodeWrong'. -/
def inodeWrongCard : Claim7 := { stood := { row := inodeWrongRow, standIns := [], harness := (true, "11181078f9969a06cada723cf73466153a5b6462ab89ed4e61351cb55254949c"), looks := true }, kinds := [], alts := [], laidByText := true, laidKinds := [.data], laidTests := true, laidLooks := .later }
def InodeWrongCardSaid : Prop := Claim7.holds Tryd.pinned (.plain (OpenSpec.ofChange inodeWrongSpec)) inodeWrongCard

/-- THE SECOND FORM's CARD OF 'furrowlaw09.InodeReplays'. -/
def inodeReplaysUptoCard : Claim7 := { stood := { row := inodeReplaysUptoRow, standIns := [], harness := (true, "11181078f9969a06cada723cf73466153a5b6462ab89ed4e61351cb55254949c"), looks := true }, kinds := [], alts := [], laidByText := true, laidKinds := [.data], laidTests := true, laidLooks := .later }
def InodeReplaysUptoCardSaid : Prop := Claim7.holds Tryd.pinned (.plain (OpenSpec.upto inodeReplaysSpec)) inodeReplaysUptoCard

/-- THE SECOND FORM's CARD OF 'furrowlaw09.InodeFiles'. -/
def inodeFilesUptoCard : Claim7 := { stood := { row := inodeFilesUptoRow, standIns := [], harness := (true, "11181078f9969a06cada723cf73466153a5b6462ab89ed4e61351cb55254949c"), looks := true }, kinds := [], alts := [], laidByText := true, laidKinds := [.data], laidTests := true, laidLooks := .later }
def InodeFilesUptoCardSaid : Prop := Claim7.holds Tryd.pinned (.plain (OpenSpec.upto inodeFilesSpec)) inodeFilesUptoCard

/-- THE SECOND FORM's CARD OF 'furrowlaw09.InodeApplies'. -/
def inodeAppliesUptoCard : Claim7 := { stood := { row := inodeAppliesUptoRow, standIns := [], harness := (true, "11181078f9969a06cada723cf73466153a5b6462ab89ed4e61351cb55254949c"), looks := true }, kinds := [], alts := [], laidByText := true, laidKinds := [.data], laidTests := true, laidLooks := .later }
def InodeAppliesUptoCardSaid : Prop := Claim7.holds Tryd.pinned (.plain (OpenSpec.upto inodeAppliesSpec)) inodeAppliesUptoCard

/-- THE SECOND FORM's CARD OF 'furrowlaw09.InodeDirectories'. -/
def inodeDirectoriesUptoCard : Claim7 := { stood := { row := inodeDirectoriesUptoRow, standIns := [], harness := (true, "11181078f9969a06cada723cf73466153a5b6462ab89ed4e61351cb55254949c"), looks := true }, kinds := [], alts := [], laidByText := true, laidKinds := [.data], laidTests := true, laidLooks := .later }
def InodeDirectoriesUptoCardSaid : Prop := Claim7.holds Tryd.pinned (.plain (OpenSpec.upto inodeDirectoriesSpec)) inodeDirectoriesUptoCard

/-- THE SECOND FORM's CARD OF 'furrowlaw09.InodeSteps'. -/
def inodeStepsUptoCard : Claim7 := { stood := { row := inodeStepsUptoRow, standIns := [], harness := (true, "11181078f9969a06cada723cf73466153a5b6462ab89ed4e61351cb55254949c"), looks := true }, kinds := [], alts := [], laidByText := true, laidKinds := [.data], laidTests := true, laidLooks := .later }
def InodeStepsUptoCardSaid : Prop := Claim7.holds Tryd.pinned (.plain (OpenSpec.upto inodeStepsSpec)) inodeStepsUptoCard

/-- THE SECOND FORM's CARD OF 'furrowlaw09.InodeCuts'. -/
def inodeCutsUptoCard : Claim7 := { stood := { row := inodeCutsUptoRow, standIns := [], harness := (true, "11181078f9969a06cada723cf73466153a5b6462ab89ed4e61351cb55254949c"), looks := true }, kinds := [], alts := [], laidByText := true, laidKinds := [.data], laidTests := true, laidLooks := .later }
def InodeCutsUptoCardSaid : Prop := Claim7.holds Tryd.pinned (.plain (OpenSpec.upto inodeCutsSpec)) inodeCutsUptoCard

/-- THE SECOND FORM's CARD OF 'furrowlaw09.InodeCanonMeans'. -/
def inodeCanonMeansUptoCard : Claim7 := { stood := { row := inodeCanonMeansUptoRow, standIns := [], harness := (true, "11181078f9969a06cada723cf73466153a5b6462ab89ed4e61351cb55254949c"), looks := true }, kinds := [], alts := [], laidByText := true, laidKinds := [.data], laidTests := true, laidLooks := .later }
def InodeCanonMeansUptoCardSaid : Prop := Claim7.holds Tryd.pinned (.plain (OpenSpec.upto inodeCanonMeansSpec)) inodeCanonMeansUptoCard

/-- THE SECOND FORM's CARD OF 'furrowlaw09.InodeWrong'. -/
def inodeWrongUptoCard : Claim7 := { stood := { row := inodeWrongUptoRow, standIns := [], harness := (true, "11181078f9969a06cada723cf73466153a5b6462ab89ed4e61351cb55254949c"), looks := true }, kinds := [], alts := [], laidByText := true, laidKinds := [.data], laidTests := true, laidLooks := .later }
def InodeWrongUptoCardSaid : Prop := Claim7.holds Tryd.pinned (.plain (OpenSpec.upto inodeWrongSpec)) inodeWrongUptoCard
end Rows
end Go.Proofs.YtabebkffcmajkaaDoor
