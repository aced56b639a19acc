/-
  DERIVED. GIVEN WITH THE SEED: THE CARDS: each row of YtpckoeicbjfnhaaGreatDoorRows.lean that lists a variable, with what it lists TIED to the program's text (the seventh form; the later family's looks); each row that meets fmt, with fmt's text TOLD by the authors' own Lean function (tested against real Go, not proved from fmt's source: count such statements apart). THE CARD IS WHAT COUNTS. Prove the row's statement (the work); the ties are given (YtpckoeicbjfnhaaGreatDoorTie.lean); close each card by the builder's one call (the guide's Derived/Test/ToyasCard.lean, 'card_holds'). Laid BY PROGRAM, IN A SANDBOX (cutbox-door.mjs). By AI agents, Wed Nov 11 2026. No macro, syntax, notation, axiom, sorry.
-/
import Derived.Test.YtpckoeicbjfnhaaGreatDoorRows
import GoSem.ClaimSeven
namespace Go.Proofs.YtpckoeicbjfnhaaGreatDoor
namespace Rows

/-- THE TIED CARD OF 'darninglaw24.DiffTrees'. -/
def diffTreesCard : Claim7 := { stood := { row := diffTreesRow, standIns := [], harness := (true, "314f780ed9986ee191fd07784aa059497d0731c9833aaa0b4c1c9cb81e65058f"), looks := false }, kinds := [], alts := [], laidByText := true, laidKinds := [.data, .pinned], laidTests := true, laidLooks := .later }
def DiffTreesCardSaid : Prop := Claim7.holds Tryz.pinned (.plain (OpenSpec.ofChange diffTreesSpec)) diffTreesCard

/-- THE TIED CARD OF 'darninglaw24.DiffBetween'. -/
def diffBetweenCard : Claim7 := { stood := { row := diffBetweenRow, standIns := [], harness := (true, "314f780ed9986ee191fd07784aa059497d0731c9833aaa0b4c1c9cb81e65058f"), looks := false }, kinds := [], alts := [], laidByText := true, laidKinds := [.data, .pinned], laidTests := true, laidLooks := .later }
def DiffBetweenCardSaid : Prop := Claim7.holds Tryz.pinned (.plain (OpenSpec.ofChange diffBetweenSpec)) diffBetweenCard

/-- THE TIED CARD OF 'darninglaw24.DiffWays'. -/
def diffWaysCard : Claim7 := { stood := { row := diffWaysRow, standIns := [], harness := (true, "314f780ed9986ee191fd07784aa059497d0731c9833aaa0b4c1c9cb81e65058f"), looks := false }, kinds := [], alts := [], laidByText := true, laidKinds := [.data, .pinned], laidTests := true, laidLooks := .later }
def DiffWaysCardSaid : Prop := Claim7.holds Tryz.pinned (.plain (OpenSpec.ofChange diffWaysSpec)) diffWaysCard

/-- THE TIED CARD OF 'darninglaw24.DiffNothing'. -/
def diffNothingCard : Claim7 := { stood := { row := diffNothingRow, standIns := [], harness := (true, "314f780ed9986ee191fd07784aa059497d0731c9833aaa0b4c1c9cb81e65058f"), looks := false }, kinds := [], alts := [], laidByText := true, laidKinds := [.data, .pinned], laidTests := true, laidLooks := .later }
def DiffNothingCardSaid : Prop := Claim7.holds Tryz.pinned (.plain (OpenSpec.ofChange diffNothingSpec)) diffNothingCard

/-- THE SECOND FORM's CARD OF 'darninglaw24.DiffTrees'. -/
def diffTreesUptoCard : Claim7 := { stood := { row := diffTreesUptoRow, standIns := [], harness := (true, "314f780ed9986ee191fd07784aa059497d0731c9833aaa0b4c1c9cb81e65058f"), looks := false }, kinds := [], alts := [], laidByText := true, laidKinds := [.data, .pinned], laidTests := true, laidLooks := .later }
def DiffTreesUptoCardSaid : Prop := Claim7.holds Tryz.pinned (.plain (OpenSpec.upto diffTreesSpec)) diffTreesUptoCard

/-- THE SECOND FORM's CARD OF 'darninglaw24.DiffBetween'. -/
def diffBetweenUptoCard : Claim7 := { stood := { row := diffBetweenUptoRow, standIns := [], harness := (true, "314f780ed9986ee191fd07784aa059497d0731c9833aaa0b4c1c9cb81e65058f"), looks := false }, kinds := [], alts := [], laidByText := true, laidKinds := [.data, .pinned], laidTests := true, laidLooks := .later }
def DiffBetweenUptoCardSaid : Prop := Claim7.holds Tryz.pinned (.plain (OpenSpec.upto diffBetweenSpec)) diffBetweenUptoCard

/-- THE SECOND FORM's CARD OF 'darninglaw24.DiffWays'. -/
def diffWaysUptoCard : Claim7 := { stood := { row := diffWaysUptoRow, standIns := [], harness := (true, "314f780ed9986ee191fd07784aa059497d0731c9833aaa0b4c1c9cb81e65058f"), looks := false }, kinds := [], alts := [], laidByText := true, laidKinds := [.data, .pinned], laidTests := true, laidLooks := .later }
def DiffWaysUptoCardSaid : Prop := Claim7.holds Tryz.pinned (.plain (OpenSpec.upto diffWaysSpec)) diffWaysUptoCard

/-- THE SECOND FORM's CARD OF 'darninglaw24.DiffNothing'. -/
def diffNothingUptoCard : Claim7 := { stood := { row := diffNothingUptoRow, standIns := [], harness := (true, "314f780ed9986ee191fd07784aa059497d0731c9833aaa0b4c1c9cb81e65058f"), looks := false }, kinds := [], alts := [], laidByText := true, laidKinds := [.data, .pinned], laidTests := true, laidLooks := .later }
def DiffNothingUptoCardSaid : Prop := Claim7.holds Tryz.pinned (.plain (OpenSpec.upto diffNothingSpec)) diffNothingUptoCard
end Rows
end Go.Proofs.YtpckoeicbjfnhaaGreatDoor
