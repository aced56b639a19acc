/-
  DERIVED. GIVEN WITH THE SEED: THE CARDS: each row of YtfimpmennkfjcaaGreatDoorRows.lean that lists a variable, with what it lists TIED to the program's text (the seventh form; the later family's looks); each row that meets fmt, with fmt's text TOLD by the authors' own Lean function (tested against real Go, not proved from fmt's source: count such statements apart). THE CARD IS WHAT COUNTS. Prove the row's statement (the work); the ties are given (YtfimpmennkfjcaaGreatDoorTie.lean); close each card by the builder's one call (the guide's Derived/Test/ToyasCard.lean, 'card_holds'). Laid BY PROGRAM, IN A SANDBOX (cutbox-door.mjs). By AI agents, Wed Nov 11 2026. No macro, syntax, notation, axiom, sorry.
-/
import Derived.Test.YtfimpmennkfjcaaGreatDoorRows
import GoSem.ClaimSeven
namespace Go.Proofs.YtfimpmennkfjcaaGreatDoor
namespace Rows

/-- THE TIED CARD OF 'darninglaw19.KeepUnion'. -/
def keepUnionCard : Claim7 := { stood := { row := keepUnionRow, standIns := [], harness := (true, "490bfa0f61001b1a32b2b43961903ca50827e6e2e1a2bf6259bda4f95ca82994"), looks := false }, kinds := [], alts := [], laidByText := true, laidKinds := [.data, .pinned], laidTests := true, laidLooks := .later }
def KeepUnionCardSaid : Prop := Claim7.holds Tryz.pinned (.plain (OpenSpec.ofChange keepUnionSpec)) keepUnionCard

/-- THE TIED CARD OF 'darninglaw19.KeepMasks'. -/
def keepMasksCard : Claim7 := { stood := { row := keepMasksRow, standIns := [], harness := (true, "490bfa0f61001b1a32b2b43961903ca50827e6e2e1a2bf6259bda4f95ca82994"), looks := false }, kinds := [], alts := [], laidByText := true, laidKinds := [.data, .pinned], laidTests := true, laidLooks := .later }
def KeepMasksCardSaid : Prop := Claim7.holds Tryz.pinned (.plain (OpenSpec.ofChange keepMasksSpec)) keepMasksCard

/-- THE TIED CARD OF 'darninglaw19.KeepPaths'. -/
def keepPathsCard : Claim7 := { stood := { row := keepPathsRow, standIns := [], harness := (true, "490bfa0f61001b1a32b2b43961903ca50827e6e2e1a2bf6259bda4f95ca82994"), looks := false }, kinds := [], alts := [], laidByText := true, laidKinds := [.data, .pinned], laidTests := true, laidLooks := .later }
def KeepPathsCardSaid : Prop := Claim7.holds Tryz.pinned (.plain (OpenSpec.ofChange keepPathsSpec)) keepPathsCard

/-- THE TIED CARD OF 'darninglaw19.KeepBoth'. -/
def keepBothCard : Claim7 := { stood := { row := keepBothRow, standIns := [], harness := (true, "490bfa0f61001b1a32b2b43961903ca50827e6e2e1a2bf6259bda4f95ca82994"), looks := false }, kinds := [], alts := [], laidByText := true, laidKinds := [.data, .pinned], laidTests := true, laidLooks := .later }
def KeepBothCardSaid : Prop := Claim7.holds Tryz.pinned (.plain (OpenSpec.ofChange keepBothSpec)) keepBothCard

/-- THE SECOND FORM's CARD OF 'darninglaw19.KeepUnion'. -/
def keepUnionUptoCard : Claim7 := { stood := { row := keepUnionUptoRow, standIns := [], harness := (true, "490bfa0f61001b1a32b2b43961903ca50827e6e2e1a2bf6259bda4f95ca82994"), looks := false }, kinds := [], alts := [], laidByText := true, laidKinds := [.data, .pinned], laidTests := true, laidLooks := .later }
def KeepUnionUptoCardSaid : Prop := Claim7.holds Tryz.pinned (.plain (OpenSpec.upto keepUnionSpec)) keepUnionUptoCard

/-- THE SECOND FORM's CARD OF 'darninglaw19.KeepMasks'. -/
def keepMasksUptoCard : Claim7 := { stood := { row := keepMasksUptoRow, standIns := [], harness := (true, "490bfa0f61001b1a32b2b43961903ca50827e6e2e1a2bf6259bda4f95ca82994"), looks := false }, kinds := [], alts := [], laidByText := true, laidKinds := [.data, .pinned], laidTests := true, laidLooks := .later }
def KeepMasksUptoCardSaid : Prop := Claim7.holds Tryz.pinned (.plain (OpenSpec.upto keepMasksSpec)) keepMasksUptoCard

/-- THE SECOND FORM's CARD OF 'darninglaw19.KeepPaths'. -/
def keepPathsUptoCard : Claim7 := { stood := { row := keepPathsUptoRow, standIns := [], harness := (true, "490bfa0f61001b1a32b2b43961903ca50827e6e2e1a2bf6259bda4f95ca82994"), looks := false }, kinds := [], alts := [], laidByText := true, laidKinds := [.data, .pinned], laidTests := true, laidLooks := .later }
def KeepPathsUptoCardSaid : Prop := Claim7.holds Tryz.pinned (.plain (OpenSpec.upto keepPathsSpec)) keepPathsUptoCard

/-- THE SECOND FORM's CARD OF 'darninglaw19.KeepBoth'. -/
def keepBothUptoCard : Claim7 := { stood := { row := keepBothUptoRow, standIns := [], harness := (true, "490bfa0f61001b1a32b2b43961903ca50827e6e2e1a2bf6259bda4f95ca82994"), looks := false }, kinds := [], alts := [], laidByText := true, laidKinds := [.data, .pinned], laidTests := true, laidLooks := .later }
def KeepBothUptoCardSaid : Prop := Claim7.holds Tryz.pinned (.plain (OpenSpec.upto keepBothSpec)) keepBothUptoCard
end Rows
end Go.Proofs.YtfimpmennkfjcaaGreatDoor
