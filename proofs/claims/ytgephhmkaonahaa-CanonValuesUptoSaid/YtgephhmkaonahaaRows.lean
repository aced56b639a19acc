/-
  NARROWER THAN 'FOR EVERY INPUT', by the rows' own cells (each row's printed sentence says how): CanonEncodes: loops · CanonValues: loops.
  DERIVED. THE GIVEN ROWS OF THIS SEAT. 5 by the template 'for every input the law returns true; each argument reads behind the call as it read before'; 0 by the template 'total and deterministic' (their statements: YtgephhmkaonahaaTotals.lean).
  GIVEN WITH THE SEED: the statements are not yours to turn. If you find one false, say at which input.
  Laid BY PROGRAM, IN A SANDBOX (cutbox-rows.mjs): the forced cells as the released guide's own fill.sh prints them over the translation 7398a467b386c873… (all of the seat's roots in one cut). By AI agents, Wed Nov 11 2026. No macro, syntax, notation, axiom, sorry.
-/
import Derived.Test.YtgephhmkaonahaaChecked
import GoSem.Claim
import GoSem.ClaimJoined
import GoSem.ClaimMapViews
import Derived.JoinedTies
import Derived.KernelRfl
namespace Go.Proofs.Ytgephhmkaonahaa
/- THE CELL 'sum', in the pinned program and in every row, IS THE sha256 OF THE DUMP (.gsa) THAT YtgephhmkaonahaaProg.lean LOADS. Nothing in Lean hashes anything: it is a label: what it is worth is what the hold of that sum in a sandbox is worth. -/
noncomputable def Try.pinned : Pinned := { name := "ytgephhmkaonahaa", sum := "7398a467b386c8734b1e76940352deec861f281da10fffa0a9d377a98757cf34", checked := Try.checked }
namespace Rows
def none {H : Type} : Left H := { results := [], args := [] }

/-- 'darninglaw34.FramesSplit': WHATEVER THE INPUT: true; the input reads as it did. -/
def framesSplitSpec : ChangeSpec := { name := "framesSplit", fn := fun _ => fun
  | [d1, d2, d3, d4, d5] => { results := [.lit (.bool true)], args := [d1, d2, d3, d4, d5] }
  | _ => none }
def framesSplitRow : OpenClaim := { program := "ytgephhmkaonahaa", sum := "7398a467b386c8734b1e76940352deec861f281da10fffa0a9d377a98757cf34", func := "darning/darninglaw34.FramesSplit", spec := "framesSplit", unfollowed := true, recurses := true, plainKeys := false, apart := false }
def FramesSplitSaid : Prop := framesSplitRow.holds Try.pinned (OpenSpec.ofChange framesSplitSpec)

/-- ITS FALSE NEIGHBOUR: 'it returns false'. Refute it at one input. -/
def framesSplitWrong : ChangeSpec := { name := "framesSplit", fn := fun _ => fun
  | [d1, d2, d3, d4, d5] => { results := [.lit (.bool false)], args := [d1, d2, d3, d4, d5] }
  | _ => none }
def FramesSplitWrongFalsely : Prop := framesSplitRow.holds Try.pinned (OpenSpec.ofChange framesSplitWrong)

/-- 'darninglaw16.CanonEncodes': WHATEVER THE INPUT: true; the input reads as it did. -/
def canonEncodesSpec : ChangeSpec := { name := "canonEncodes", fn := fun _ => fun
  | [d1, d2, d3] => { results := [.lit (.bool true)], args := [d1, d2, d3] }
  | _ => none }
def canonEncodesRow : OpenClaim := { program := "ytgephhmkaonahaa", sum := "7398a467b386c8734b1e76940352deec861f281da10fffa0a9d377a98757cf34", func := "darning/darninglaw16.CanonEncodes", spec := "canonEncodes", unfollowed := true, recurses := true, loops := true, plainKeys := false, apart := false }
def CanonEncodesSaid : Prop := canonEncodesRow.holds Try.pinned (OpenSpec.ofChange canonEncodesSpec)

/-- ITS FALSE NEIGHBOUR: 'it returns false'. Refute it at one input. -/
def canonEncodesWrong : ChangeSpec := { name := "canonEncodes", fn := fun _ => fun
  | [d1, d2, d3] => { results := [.lit (.bool false)], args := [d1, d2, d3] }
  | _ => none }
def CanonEncodesWrongFalsely : Prop := canonEncodesRow.holds Try.pinned (OpenSpec.ofChange canonEncodesWrong)

/-- 'darninglaw16.CanonValues': WHATEVER THE INPUT: true; the input reads as it did. -/
def canonValuesSpec : ChangeSpec := { name := "canonValues", fn := fun _ => fun
  | [d1, d2, d3] => { results := [.lit (.bool true)], args := [d1, d2, d3] }
  | _ => none }
def canonValuesRow : OpenClaim := { program := "ytgephhmkaonahaa", sum := "7398a467b386c8734b1e76940352deec861f281da10fffa0a9d377a98757cf34", func := "darning/darninglaw16.CanonValues", spec := "canonValues", unfollowed := true, recurses := true, loops := true, plainKeys := false, apart := false }
def CanonValuesSaid : Prop := canonValuesRow.holds Try.pinned (OpenSpec.ofChange canonValuesSpec)

/-- ITS FALSE NEIGHBOUR: 'it returns false'. Refute it at one input. -/
def canonValuesWrong : ChangeSpec := { name := "canonValues", fn := fun _ => fun
  | [d1, d2, d3] => { results := [.lit (.bool false)], args := [d1, d2, d3] }
  | _ => none }
def CanonValuesWrongFalsely : Prop := canonValuesRow.holds Try.pinned (OpenSpec.ofChange canonValuesWrong)

/-- 'darninglaw31.EvolveChanges': WHATEVER THE INPUT: true; the input reads as it did. -/
def evolveChangesSpec : ChangeSpec := { name := "evolveChanges", fn := fun _ => fun
  | [d1, d2] => { results := [.lit (.bool true)], args := [d1, d2] }
  | _ => none }
def evolveChangesRow : OpenClaim := { program := "ytgephhmkaonahaa", sum := "7398a467b386c8734b1e76940352deec861f281da10fffa0a9d377a98757cf34", func := "darning/darninglaw31.EvolveChanges", spec := "evolveChanges", inPlace := ["maps.clone"], unfollowed := true, recurses := true, plainKeys := false, apart := false }
def EvolveChangesSaid : Prop := evolveChangesRow.holds Try.pinned (OpenSpec.ofChange evolveChangesSpec)

/-- ITS FALSE NEIGHBOUR: 'it returns false'. Refute it at one input. -/
def evolveChangesWrong : ChangeSpec := { name := "evolveChanges", fn := fun _ => fun
  | [d1, d2] => { results := [.lit (.bool false)], args := [d1, d2] }
  | _ => none }
def EvolveChangesWrongFalsely : Prop := evolveChangesRow.holds Try.pinned (OpenSpec.ofChange evolveChangesWrong)

/-- 'darninglaw28.StatsAdds': WHATEVER THE INPUT: true; the input reads as it did. -/
def statsAddsSpec : ChangeSpec := { name := "statsAdds", fn := fun _ => fun
  | [d1, d2, d3, d4, d5] => { results := [.lit (.bool true)], args := [d1, d2, d3, d4, d5] }
  | _ => none }
def statsAddsRow : OpenClaim := { program := "ytgephhmkaonahaa", sum := "7398a467b386c8734b1e76940352deec861f281da10fffa0a9d377a98757cf34", func := "darning/darninglaw28.StatsAdds", spec := "statsAdds", unfollowed := true, recurses := true, plainKeys := false, apart := false }
def StatsAddsSaid : Prop := statsAddsRow.holds Try.pinned (OpenSpec.ofChange statsAddsSpec)

/-- ITS FALSE NEIGHBOUR: 'it returns false'. Refute it at one input. -/
def statsAddsWrong : ChangeSpec := { name := "statsAdds", fn := fun _ => fun
  | [d1, d2, d3, d4, d5] => { results := [.lit (.bool false)], args := [d1, d2, d3, d4, d5] }
  | _ => none }
def StatsAddsWrongFalsely : Prop := statsAddsRow.holds Try.pinned (OpenSpec.ofChange statsAddsWrong)

/- THE SECOND FORM. 'bulk': how many values and letters a reading holds, each counted each time it is reached (what is shared counts as often as it is met; a slice's spare places count too). A statement '..UptoSaid' is the law's where the arguments, and the package variables that the reading takes, are together of bulk at most 1048576: NARROWER than '..Said'. Prove '..Said' where nothing that the law and all that it calls make is longer than what came in: it says more and counts as full. Else prove '..UptoSaid'. A law counts once. -/
mutual
def uptoBulk {H : Type} : DataW H → Nat
  | .lit (.string bytes) => bytes.length + 1
  | .lit _ => 1
  | .nil => 1
  | .ptr d => uptoBulk d + 1
  | .slice elems spare => uptoBulkAll elems + uptoBulkAll spare + 1
  | .agg parts => uptoBulkAll parts + 1
  | .iface _ d => uptoBulk d + 1
  | .map entries => uptoBulkEntries entries + 1
  | .held _ => 1
def uptoBulkAll {H : Type} : List (DataW H) → Nat
  | [] => 0
  | d :: r => uptoBulk d + uptoBulkAll r
def uptoBulkEntries {H : Type} : List (Lit × DataW H) → Nat
  | [] => 0
  | x :: r => uptoBulkEntry x + uptoBulkEntries r
def uptoBulkEntry {H : Type} : Lit × DataW H → Nat
  | (.string bytes, d) => bytes.length + uptoBulk d + 1
  | (_, d) => uptoBulk d + 1
 end
def uptoSmall : (H : Type) → List (DataW H) → Bool := fun _ ds => decide (uptoBulkAll ds ≤ 1048576)
def OpenSpec.upto (s : _root_.Go.ChangeSpec) : _root_.Go.OpenSpec := { _root_.Go.OpenSpec.ofChange s with cond := some uptoSmall }

/-- 'darninglaw34.FramesSplit', WHERE WHAT IT READS IS OF BULK AT MOST 1048576: true; the input reads as it did. -/
def framesSplitUptoRow : OpenClaim := { program := "ytgephhmkaonahaa", sum := "7398a467b386c8734b1e76940352deec861f281da10fffa0a9d377a98757cf34", func := "darning/darninglaw34.FramesSplit", spec := "framesSplit", unfollowed := true, recurses := true, plainKeys := false, apart := false, narrowed := true }
def FramesSplitUptoSaid : Prop := framesSplitUptoRow.holds Try.pinned (OpenSpec.upto framesSplitSpec)

/-- 'darninglaw16.CanonEncodes', WHERE WHAT IT READS IS OF BULK AT MOST 1048576: true; the input reads as it did. -/
def canonEncodesUptoRow : OpenClaim := { program := "ytgephhmkaonahaa", sum := "7398a467b386c8734b1e76940352deec861f281da10fffa0a9d377a98757cf34", func := "darning/darninglaw16.CanonEncodes", spec := "canonEncodes", unfollowed := true, recurses := true, loops := true, plainKeys := false, apart := false, narrowed := true }
def CanonEncodesUptoSaid : Prop := canonEncodesUptoRow.holds Try.pinned (OpenSpec.upto canonEncodesSpec)

/-- 'darninglaw16.CanonValues', WHERE WHAT IT READS IS OF BULK AT MOST 1048576: true; the input reads as it did. -/
def canonValuesUptoRow : OpenClaim := { program := "ytgephhmkaonahaa", sum := "7398a467b386c8734b1e76940352deec861f281da10fffa0a9d377a98757cf34", func := "darning/darninglaw16.CanonValues", spec := "canonValues", unfollowed := true, recurses := true, loops := true, plainKeys := false, apart := false, narrowed := true }
def CanonValuesUptoSaid : Prop := canonValuesUptoRow.holds Try.pinned (OpenSpec.upto canonValuesSpec)

/-- 'darninglaw31.EvolveChanges', WHERE WHAT IT READS IS OF BULK AT MOST 1048576: true; the input reads as it did. -/
def evolveChangesUptoRow : OpenClaim := { program := "ytgephhmkaonahaa", sum := "7398a467b386c8734b1e76940352deec861f281da10fffa0a9d377a98757cf34", func := "darning/darninglaw31.EvolveChanges", spec := "evolveChanges", inPlace := ["maps.clone"], unfollowed := true, recurses := true, plainKeys := false, apart := false, narrowed := true }
def EvolveChangesUptoSaid : Prop := evolveChangesUptoRow.holds Try.pinned (OpenSpec.upto evolveChangesSpec)

/-- 'darninglaw28.StatsAdds', WHERE WHAT IT READS IS OF BULK AT MOST 1048576: true; the input reads as it did. -/
def statsAddsUptoRow : OpenClaim := { program := "ytgephhmkaonahaa", sum := "7398a467b386c8734b1e76940352deec861f281da10fffa0a9d377a98757cf34", func := "darning/darninglaw28.StatsAdds", spec := "statsAdds", unfollowed := true, recurses := true, plainKeys := false, apart := false, narrowed := true }
def StatsAddsUptoSaid : Prop := statsAddsUptoRow.holds Try.pinned (OpenSpec.upto statsAddsSpec)

end Rows
end Go.Proofs.Ytgephhmkaonahaa
