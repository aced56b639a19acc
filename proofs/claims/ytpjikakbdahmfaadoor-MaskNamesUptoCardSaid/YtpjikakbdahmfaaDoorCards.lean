/-
  DERIVED. GIVEN WITH THE SEED: THE CARDS: each row of YtpjikakbdahmfaaDoorRows.lean that lists a variable, with what it lists TIED to the program's text (the seventh form; the later family's looks); each row that meets fmt, with fmt's text TOLD by the authors' own Lean function (tested against real Go, not proved from fmt's source: count such statements apart). THE CARD IS WHAT COUNTS. Prove the row's statement (the work); the ties are given (YtpjikakbdahmfaaDoorTie.lean); close each card by the builder's one call (the guide's Derived/Test/ToyasCard.lean, 'card_holds'). Laid BY PROGRAM, IN A SANDBOX (cutbox-door.mjs). By AI agents, Wed Nov 11 2026. No macro, syntax, notation, axiom, sorry.
-/
import Derived.Test.YtpjikakbdahmfaaDoorRows
import GoSem.ClaimSeven
namespace Go.Proofs.YtpjikakbdahmfaaDoor
namespace Rows

/-- THE TIED CARD OF 'darninglaw13.MaskSets'. -/
def maskSetsCard : Claim7 := { stood := { row := maskSetsRow, standIns := [], harness := (true, "1287c6f222c30a0c8565e776c40810f468deea9dbe482ba813cb83c10dde29a6"), looks := false }, kinds := [], alts := [], laidByText := true, laidKinds := [.data, .pinned], laidTests := true, laidLooks := .later }
def MaskSetsCardSaid : Prop := Claim7.holds Tryd.pinned (.plain (OpenSpec.ofChange maskSetsSpec)) maskSetsCard

/-- THE TIED CARD OF 'darninglaw13.MaskWays'. -/
def maskWaysCard : Claim7 := { stood := { row := maskWaysRow, standIns := [], harness := (true, "1287c6f222c30a0c8565e776c40810f468deea9dbe482ba813cb83c10dde29a6"), looks := false }, kinds := [], alts := [], laidByText := true, laidKinds := [.data, .pinned], laidTests := true, laidLooks := .later }
def MaskWaysCardSaid : Prop := Claim7.holds Tryd.pinned (.plain (OpenSpec.ofChange maskWaysSpec)) maskWaysCard

/-- THE TIED CARD OF 'darninglaw13.MaskNames'. -/
def maskNamesCard : Claim7 := { stood := { row := maskNamesRow, standIns := [], harness := (true, "1287c6f222c30a0c8565e776c40810f468deea9dbe482ba813cb83c10dde29a6"), looks := false }, kinds := [], alts := [], laidByText := true, laidKinds := [.data, .pinned], laidTests := true, laidLooks := .later }
def MaskNamesCardSaid : Prop := Claim7.holds Tryd.pinned (.plain (OpenSpec.ofChange maskNamesSpec)) maskNamesCard

/-- THE SECOND FORM's CARD OF 'darninglaw13.MaskSets'. -/
def maskSetsUptoCard : Claim7 := { stood := { row := maskSetsUptoRow, standIns := [], harness := (true, "1287c6f222c30a0c8565e776c40810f468deea9dbe482ba813cb83c10dde29a6"), looks := false }, kinds := [], alts := [], laidByText := true, laidKinds := [.data, .pinned], laidTests := true, laidLooks := .later }
def MaskSetsUptoCardSaid : Prop := Claim7.holds Tryd.pinned (.plain (OpenSpec.upto maskSetsSpec)) maskSetsUptoCard

/-- THE SECOND FORM's CARD OF 'darninglaw13.MaskWays'. -/
def maskWaysUptoCard : Claim7 := { stood := { row := maskWaysUptoRow, standIns := [], harness := (true, "1287c6f222c30a0c8565e776c40810f468deea9dbe482ba813cb83c10dde29a6"), looks := false }, kinds := [], alts := [], laidByText := true, laidKinds := [.data, .pinned], laidTests := true, laidLooks := .later }
def MaskWaysUptoCardSaid : Prop := Claim7.holds Tryd.pinned (.plain (OpenSpec.upto maskWaysSpec)) maskWaysUptoCard

/-- THE SECOND FORM's CARD OF 'darninglaw13.MaskNames'. -/
def maskNamesUptoCard : Claim7 := { stood := { row := maskNamesUptoRow, standIns := [], harness := (true, "1287c6f222c30a0c8565e776c40810f468deea9dbe482ba813cb83c10dde29a6"), looks := false }, kinds := [], alts := [], laidByText := true, laidKinds := [.data, .pinned], laidTests := true, laidLooks := .later }
def MaskNamesUptoCardSaid : Prop := Claim7.holds Tryd.pinned (.plain (OpenSpec.upto maskNamesSpec)) maskNamesUptoCard
end Rows
end Go.Proofs.YtpjikakbdahmfaaDoor
