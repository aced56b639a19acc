/-
  DERIVED. GIVEN WITH THE SEED: THE CARDS: each row of YtdpnmdkbdibkpaaGreatDoorRows.lean that lists a variable, with what it lists TIED to the program's text (the seventh form; the later family's looks); each row that meets fmt, with fmt's text TOLD by the authors' own Lean function (tested against real Go, not proved from fmt's source: count such statements apart). THE CARD IS WHAT COUNTS. Prove the row's statement (the work); the ties are given (YtdpnmdkbdibkpaaGreatDoorTie.lean); close each card by the builder's one call (the guide's Derived/Test/ToyasCard.lean, 'card_holds'). Laid BY PROGRAM, IN A SANDBOX (cutbox-door.mjs). By AI agents, Wed Nov 11 2026. No macro, syntax, notation, axiom, sorry.
-/
import Derived.Test.YtdpnmdkbdibkpaaGreatDoorRows
import GoSem.ClaimSeven
namespace Go.Proofs.YtdpnmdkbdibkpaaGreatDoor
namespace Rows

/-- THE TIED CARD OF 'darninglaw15.AlgebraSets'. -/
def algebraSetsCard : Claim7 := { stood := { row := algebraSetsRow, standIns := [], harness := (true, "6dca3481eb2a7e9bbdaaa32a5c4086996bd63fb13379dc1fa5d965295f07ff8c"), looks := false }, kinds := [], alts := [], laidByText := true, laidKinds := [.data, .pinned], laidTests := true, laidLooks := .later }
def AlgebraSetsCardSaid : Prop := Claim7.holds Tryz.pinned (.plain (OpenSpec.ofChange algebraSetsSpec)) algebraSetsCard

/-- THE SECOND FORM's CARD OF 'darninglaw15.AlgebraSets'. -/
def algebraSetsUptoCard : Claim7 := { stood := { row := algebraSetsUptoRow, standIns := [], harness := (true, "6dca3481eb2a7e9bbdaaa32a5c4086996bd63fb13379dc1fa5d965295f07ff8c"), looks := false }, kinds := [], alts := [], laidByText := true, laidKinds := [.data, .pinned], laidTests := true, laidLooks := .later }
def AlgebraSetsUptoCardSaid : Prop := Claim7.holds Tryz.pinned (.plain (OpenSpec.upto algebraSetsSpec)) algebraSetsUptoCard
end Rows
end Go.Proofs.YtdpnmdkbdibkpaaGreatDoor
