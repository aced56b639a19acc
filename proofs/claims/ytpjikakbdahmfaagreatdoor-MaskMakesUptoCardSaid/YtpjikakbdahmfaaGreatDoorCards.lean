/-
  DERIVED. GIVEN WITH THE SEED: THE CARDS: each row of YtpjikakbdahmfaaGreatDoorRows.lean that lists a variable, with what it lists TIED to the program's text (the seventh form; the later family's looks); each row that meets fmt, with fmt's text TOLD by the authors' own Lean function (tested against real Go, not proved from fmt's source: count such statements apart). THE CARD IS WHAT COUNTS. Prove the row's statement (the work); the ties are given (YtpjikakbdahmfaaGreatDoorTie.lean); close each card by the builder's one call (the guide's Derived/Test/ToyasCard.lean, 'card_holds'). Laid BY PROGRAM, IN A SANDBOX (cutbox-door.mjs). By AI agents, Wed Nov 11 2026. No macro, syntax, notation, axiom, sorry.
-/
import Derived.Test.YtpjikakbdahmfaaGreatDoorRows
import GoSem.ClaimSeven
namespace Go.Proofs.YtpjikakbdahmfaaGreatDoor
namespace Rows

/-- THE TIED CARD OF 'darninglaw13.MaskMakes'. -/
def maskMakesCard : Claim7 := { stood := { row := maskMakesRow, standIns := [], harness := (true, "65aa6e076368cdd63811ef2c0df9a66c58002ce1ef5746b201be4c245e8824fa"), looks := false }, kinds := [], alts := [], laidByText := true, laidKinds := [.data, .pinned], laidTests := true, laidLooks := .later }
def MaskMakesCardSaid : Prop := Claim7.holds Tryz.pinned (.plain (OpenSpec.ofChange maskMakesSpec)) maskMakesCard

/-- THE TIED CARD OF 'darninglaw21.UpdateMeans'. -/
def updateMeansCard : Claim7 := { stood := { row := updateMeansRow, standIns := [], harness := (true, "65aa6e076368cdd63811ef2c0df9a66c58002ce1ef5746b201be4c245e8824fa"), looks := false }, kinds := [], alts := [], laidByText := true, laidKinds := [.data, .pinned], laidTests := true, laidLooks := .later }
def UpdateMeansCardSaid : Prop := Claim7.holds Tryz.pinned (.plain (OpenSpec.ofChange updateMeansSpec)) updateMeansCard

/-- THE SECOND FORM's CARD OF 'darninglaw13.MaskMakes'. -/
def maskMakesUptoCard : Claim7 := { stood := { row := maskMakesUptoRow, standIns := [], harness := (true, "65aa6e076368cdd63811ef2c0df9a66c58002ce1ef5746b201be4c245e8824fa"), looks := false }, kinds := [], alts := [], laidByText := true, laidKinds := [.data, .pinned], laidTests := true, laidLooks := .later }
def MaskMakesUptoCardSaid : Prop := Claim7.holds Tryz.pinned (.plain (OpenSpec.upto maskMakesSpec)) maskMakesUptoCard

/-- THE SECOND FORM's CARD OF 'darninglaw21.UpdateMeans'. -/
def updateMeansUptoCard : Claim7 := { stood := { row := updateMeansUptoRow, standIns := [], harness := (true, "65aa6e076368cdd63811ef2c0df9a66c58002ce1ef5746b201be4c245e8824fa"), looks := false }, kinds := [], alts := [], laidByText := true, laidKinds := [.data, .pinned], laidTests := true, laidLooks := .later }
def UpdateMeansUptoCardSaid : Prop := Claim7.holds Tryz.pinned (.plain (OpenSpec.upto updateMeansSpec)) updateMeansUptoCard
end Rows
end Go.Proofs.YtpjikakbdahmfaaGreatDoor
