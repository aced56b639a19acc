/-
  DERIVED. GIVEN WITH THE SEED: THE CARDS: each row of YtmngpfnjomhhcaaDoorRows.lean that lists a variable, with what it lists TIED to the program's text (the seventh form; the later family's looks); each row that meets fmt, with fmt's text TOLD by the authors' own Lean function (tested against real Go, not proved from fmt's source: count such statements apart). THE CARD IS WHAT COUNTS. Prove the row's statement (the work); the ties are given (YtmngpfnjomhhcaaDoorTie.lean); close each card by the builder's one call (the guide's Derived/Test/ToyasCard.lean, 'card_holds'). Laid BY PROGRAM, IN A SANDBOX (cutbox-door.mjs). By AI agents, Wed Nov 11 2026. No macro, syntax, notation, axiom, sorry.
-/
import Derived.Test.YtmngpfnjomhhcaaDoorRows
import GoSem.ClaimSeven
namespace Go.Proofs.YtmngpfnjomhhcaaDoor
namespace Rows

/-- THE TIED CARD OF 'darninglaw13.MaskSets'. -/
def maskSetsCard : Claim7 := { stood := { row := maskSetsRow, standIns := [], harness := (true, "327635a805b0b01c981ea082a3ffc253e833be113563453a21679a1b00bdaed5"), looks := false }, kinds := [], alts := [], laidByText := true, laidKinds := [.data, .pinned], laidTests := true, laidLooks := .later }
def MaskSetsCardSaid : Prop := Claim7.holds Tryd.pinned (.plain (OpenSpec.ofChange maskSetsSpec)) maskSetsCard

/-- THE SECOND FORM's CARD OF 'darninglaw13.MaskSets'. -/
def maskSetsUptoCard : Claim7 := { stood := { row := maskSetsUptoRow, standIns := [], harness := (true, "327635a805b0b01c981ea082a3ffc253e833be113563453a21679a1b00bdaed5"), looks := false }, kinds := [], alts := [], laidByText := true, laidKinds := [.data, .pinned], laidTests := true, laidLooks := .later }
def MaskSetsUptoCardSaid : Prop := Claim7.holds Tryd.pinned (.plain (OpenSpec.upto maskSetsSpec)) maskSetsUptoCard
end Rows
end Go.Proofs.YtmngpfnjomhhcaaDoor
