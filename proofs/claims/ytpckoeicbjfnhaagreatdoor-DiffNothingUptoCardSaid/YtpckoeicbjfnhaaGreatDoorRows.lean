/-
  NARROWER THAN 'FOR EVERY INPUT', by the rows' own cells (each row's printed sentence says how): DiffTrees: loops, laid · DiffBetween: laid · DiffWays: laid · DiffNothing: laid.
  DERIVED. THE GIVEN ROWS OF THIS SEAT. 4 by the template 'for every input the law returns true; each argument reads behind the call as it read before'; 0 by the template 'total and deterministic' (their statements: YtpckoeicbjfnhaaGreatDoorTotals.lean).
  GIVEN WITH THE SEED: the statements are not yours to turn. If you find one false, say at which input.
  Laid BY PROGRAM, IN A SANDBOX (cutbox-rows.mjs): the forced cells as the released guide's own fill.sh prints them over the translation e401b0072856985a… (all of the seat's roots in one cut). By AI agents, Wed Nov 11 2026. No macro, syntax, notation, axiom, sorry.
-/
import Derived.Test.YtpckoeicbjfnhaaGreatDoorChecked
import GoSem.PinnedTables
import GoSem.Claim
import GoSem.ClaimJoined
import GoSem.ClaimMapViews
import Derived.JoinedTies
import Derived.KernelRfl
namespace Go.Proofs.YtpckoeicbjfnhaaGreatDoor
/- THE CELL 'sum', in the pinned program and in every row, IS THE sha256 OF THE DUMP (.gsa) THAT YtpckoeicbjfnhaaGreatDoorProg.lean LOADS. Nothing in Lean hashes anything: it is a label: what it is worth is what the hold of that sum in a sandbox is worth. -/
noncomputable def Tryz.pinned : Pinned := { name := "ytpckoeicbjfnhaagreatdoor", sum := "e401b0072856985ab1261e01c63413c23a1ce14436a04b316b0037253ca77ce6", checked := Tryz.checked }
namespace Rows
def none {H : Type} : Left H := { results := [], args := [] }

/- WHAT THE LISTED PACKAGE-LEVEL VARIABLES READ AS WHEN THE CALL BEGINS. Each datum BY PROGRAM (the guide's laid-datum.mjs) off the statement by which the dump's own 'gosem.cut.vars' lays the variable. In a bare row this is a premise. The card (YtpckoeicbjfnhaaGreatDoorCards.lean) ties it to the program's text. -/
def laid_unicode_utf8_acceptRanges {H : Type} : DataW H := .agg [.agg [.lit (.int .u8 128), .lit (.int .u8 191)], .agg [.lit (.int .u8 160), .lit (.int .u8 191)], .agg [.lit (.int .u8 128), .lit (.int .u8 159)], .agg [.lit (.int .u8 144), .lit (.int .u8 191)], .agg [.lit (.int .u8 128), .lit (.int .u8 143)], .agg [.lit (.int .u8 0), .lit (.int .u8 0)], .agg [.lit (.int .u8 0), .lit (.int .u8 0)], .agg [.lit (.int .u8 0), .lit (.int .u8 0)], .agg [.lit (.int .u8 0), .lit (.int .u8 0)], .agg [.lit (.int .u8 0), .lit (.int .u8 0)], .agg [.lit (.int .u8 0), .lit (.int .u8 0)], .agg [.lit (.int .u8 0), .lit (.int .u8 0)], .agg [.lit (.int .u8 0), .lit (.int .u8 0)], .agg [.lit (.int .u8 0), .lit (.int .u8 0)], .agg [.lit (.int .u8 0), .lit (.int .u8 0)], .agg [.lit (.int .u8 0), .lit (.int .u8 0)]]
/-- One of Go's own tables, pinned by name: the form's constant. -/
def laid_unicode_utf8_first : DataW Unit := Go.Pinned.utf8First

/-- 'darninglaw24.DiffTrees': WHATEVER THE INPUT: true; the input reads as it did. -/
def diffTreesSpec : ChangeSpec := { name := "diffTrees", fn := fun _ => fun
  | [d1, d2, d3, d4] => { results := [.lit (.bool true)], args := [d1, d2, d3, d4] }
  | _ => none }
def diffTreesRow : OpenClaim := { program := "ytpckoeicbjfnhaagreatdoor", sum := "e401b0072856985ab1261e01c63413c23a1ce14436a04b316b0037253ca77ce6", func := "darning/darninglaw24.DiffTrees", spec := "diffTrees", inPlace := ["internal/abi.NoEscape", "internal/bytealg.MakeNoZero", "internal/bytealg.IndexByteString", "internal/bytealg.IndexString"], unfollowed := true, recurses := true, named := ["unicode/utf8.first", "unicode/utf8.acceptRanges", "internal/bytealg.MaxLen"], loops := true, plainKeys := false, apart := false, laid := [("unicode/utf8.acceptRanges", laid_unicode_utf8_acceptRanges), ("unicode/utf8.first", laid_unicode_utf8_first)] }
def DiffTreesSaid : Prop := diffTreesRow.holds Tryz.pinned (OpenSpec.ofChange diffTreesSpec)

/-- ITS FALSE NEIGHBOUR: 'it returns false'. Refute it at one input. -/
def diffTreesWrong : ChangeSpec := { name := "diffTrees", fn := fun _ => fun
  | [d1, d2, d3, d4] => { results := [.lit (.bool false)], args := [d1, d2, d3, d4] }
  | _ => none }
def DiffTreesWrongFalsely : Prop := diffTreesRow.holds Tryz.pinned (OpenSpec.ofChange diffTreesWrong)

/-- 'darninglaw24.DiffBetween': WHATEVER THE INPUT: true; the input reads as it did. -/
def diffBetweenSpec : ChangeSpec := { name := "diffBetween", fn := fun _ => fun
  | [d1, d2, d3, d4, d5, d6] => { results := [.lit (.bool true)], args := [d1, d2, d3, d4, d5, d6] }
  | _ => none }
def diffBetweenRow : OpenClaim := { program := "ytpckoeicbjfnhaagreatdoor", sum := "e401b0072856985ab1261e01c63413c23a1ce14436a04b316b0037253ca77ce6", func := "darning/darninglaw24.DiffBetween", spec := "diffBetween", inPlace := ["internal/abi.NoEscape", "internal/bytealg.MakeNoZero", "internal/bytealg.IndexByteString", "internal/bytealg.IndexString"], unfollowed := true, recurses := true, named := ["unicode/utf8.first", "unicode/utf8.acceptRanges", "internal/bytealg.MaxLen"], plainKeys := false, apart := false, laid := [("unicode/utf8.acceptRanges", laid_unicode_utf8_acceptRanges), ("unicode/utf8.first", laid_unicode_utf8_first)] }
def DiffBetweenSaid : Prop := diffBetweenRow.holds Tryz.pinned (OpenSpec.ofChange diffBetweenSpec)

/-- ITS FALSE NEIGHBOUR: 'it returns false'. Refute it at one input. -/
def diffBetweenWrong : ChangeSpec := { name := "diffBetween", fn := fun _ => fun
  | [d1, d2, d3, d4, d5, d6] => { results := [.lit (.bool false)], args := [d1, d2, d3, d4, d5, d6] }
  | _ => none }
def DiffBetweenWrongFalsely : Prop := diffBetweenRow.holds Tryz.pinned (OpenSpec.ofChange diffBetweenWrong)

/-- 'darninglaw24.DiffWays': WHATEVER THE INPUT: true; the input reads as it did. -/
def diffWaysSpec : ChangeSpec := { name := "diffWays", fn := fun _ => fun
  | [d1, d2, d3, d4, d5] => { results := [.lit (.bool true)], args := [d1, d2, d3, d4, d5] }
  | _ => none }
def diffWaysRow : OpenClaim := { program := "ytpckoeicbjfnhaagreatdoor", sum := "e401b0072856985ab1261e01c63413c23a1ce14436a04b316b0037253ca77ce6", func := "darning/darninglaw24.DiffWays", spec := "diffWays", inPlace := ["internal/abi.NoEscape", "internal/bytealg.MakeNoZero", "internal/bytealg.IndexByteString", "internal/bytealg.IndexString"], unfollowed := true, recurses := true, named := ["unicode/utf8.first", "unicode/utf8.acceptRanges", "internal/bytealg.MaxLen"], plainKeys := false, apart := false, laid := [("unicode/utf8.acceptRanges", laid_unicode_utf8_acceptRanges), ("unicode/utf8.first", laid_unicode_utf8_first)] }
def DiffWaysSaid : Prop := diffWaysRow.holds Tryz.pinned (OpenSpec.ofChange diffWaysSpec)

/-- ITS FALSE NEIGHBOUR: 'it returns false'. Refute it at one input. -/
def diffWaysWrong : ChangeSpec := { name := "diffWays", fn := fun _ => fun
  | [d1, d2, d3, d4, d5] => { results := [.lit (.bool false)], args := [d1, d2, d3, d4, d5] }
  | _ => none }
def DiffWaysWrongFalsely : Prop := diffWaysRow.holds Tryz.pinned (OpenSpec.ofChange diffWaysWrong)

/-- 'darninglaw24.DiffNothing': WHATEVER THE INPUT: true; the input reads as it did. -/
def diffNothingSpec : ChangeSpec := { name := "diffNothing", fn := fun _ => fun
  | [d1, d2, d3, d4, d5] => { results := [.lit (.bool true)], args := [d1, d2, d3, d4, d5] }
  | _ => none }
def diffNothingRow : OpenClaim := { program := "ytpckoeicbjfnhaagreatdoor", sum := "e401b0072856985ab1261e01c63413c23a1ce14436a04b316b0037253ca77ce6", func := "darning/darninglaw24.DiffNothing", spec := "diffNothing", inPlace := ["internal/abi.NoEscape", "internal/bytealg.MakeNoZero", "internal/bytealg.IndexByteString", "internal/bytealg.IndexString"], unfollowed := true, recurses := true, named := ["unicode/utf8.first", "unicode/utf8.acceptRanges", "internal/bytealg.MaxLen"], plainKeys := false, apart := false, laid := [("unicode/utf8.acceptRanges", laid_unicode_utf8_acceptRanges), ("unicode/utf8.first", laid_unicode_utf8_first)] }
def DiffNothingSaid : Prop := diffNothingRow.holds Tryz.pinned (OpenSpec.ofChange diffNothingSpec)

/-- ITS FALSE NEIGHBOUR: 'it returns false'. Refute it at one input. -/
def diffNothingWrong : ChangeSpec := { name := "diffNothing", fn := fun _ => fun
  | [d1, d2, d3, d4, d5] => { results := [.lit (.bool false)], args := [d1, d2, d3, d4, d5] }
  | _ => none }
def DiffNothingWrongFalsely : Prop := diffNothingRow.holds Tryz.pinned (OpenSpec.ofChange diffNothingWrong)

/- THE SECOND FORM. 'bulk': how many values and letters a reading holds, each counted each time it is reached (what is shared counts as often as it is met; a slice's spare places count too). A statement '..UptoSaid' is the law's where the arguments, and the package variables that the reading takes, are together of bulk at most 1048576: NARROWER than '..Said'. Prove '..Said' where nothing that the law and all that it calls make is longer than what came in: it says more and counts as full. Else prove '..UptoSaid'. A law counts once. -/
mutual
def uptoBulk {H : Type} : DataW H → Nat
  | .lit (.string bytes) => bytes.length + 1
  | .lit _ => 1
  | .nil => 1
  | .ptr d => uptoBulk d + 1
  | .slice elems spare => uptoBulkAll elems + uptoBulkAll spare + 1
  | .agg parts => uptoBulkAll parts + 1
  | .iface _ d => uptoBulk d + 1
  | .map entries => uptoBulkEntries entries + 1
  | .held _ => 1
def uptoBulkAll {H : Type} : List (DataW H) → Nat
  | [] => 0
  | d :: r => uptoBulk d + uptoBulkAll r
def uptoBulkEntries {H : Type} : List (Lit × DataW H) → Nat
  | [] => 0
  | x :: r => uptoBulkEntry x + uptoBulkEntries r
def uptoBulkEntry {H : Type} : Lit × DataW H → Nat
  | (.string bytes, d) => bytes.length + uptoBulk d + 1
  | (_, d) => uptoBulk d + 1
 end
def uptoSmall : (H : Type) → List (DataW H) → Bool := fun _ ds => decide (uptoBulkAll ds ≤ 1048576)
def OpenSpec.upto (s : _root_.Go.ChangeSpec) : _root_.Go.OpenSpec := { _root_.Go.OpenSpec.ofChange s with cond := some uptoSmall }

/-- 'darninglaw24.DiffTrees', WHERE WHAT IT READS IS OF BULK AT MOST 1048576: true; the input reads as it did. -/
def diffTreesUptoRow : OpenClaim := { program := "ytpckoeicbjfnhaagreatdoor", sum := "e401b0072856985ab1261e01c63413c23a1ce14436a04b316b0037253ca77ce6", func := "darning/darninglaw24.DiffTrees", spec := "diffTrees", inPlace := ["internal/abi.NoEscape", "internal/bytealg.MakeNoZero", "internal/bytealg.IndexByteString", "internal/bytealg.IndexString"], unfollowed := true, recurses := true, named := ["unicode/utf8.first", "unicode/utf8.acceptRanges", "internal/bytealg.MaxLen"], loops := true, plainKeys := false, apart := false, laid := [("unicode/utf8.acceptRanges", laid_unicode_utf8_acceptRanges), ("unicode/utf8.first", laid_unicode_utf8_first)], narrowed := true }
def DiffTreesUptoSaid : Prop := diffTreesUptoRow.holds Tryz.pinned (OpenSpec.upto diffTreesSpec)

/-- 'darninglaw24.DiffBetween', WHERE WHAT IT READS IS OF BULK AT MOST 1048576: true; the input reads as it did. -/
def diffBetweenUptoRow : OpenClaim := { program := "ytpckoeicbjfnhaagreatdoor", sum := "e401b0072856985ab1261e01c63413c23a1ce14436a04b316b0037253ca77ce6", func := "darning/darninglaw24.DiffBetween", spec := "diffBetween", inPlace := ["internal/abi.NoEscape", "internal/bytealg.MakeNoZero", "internal/bytealg.IndexByteString", "internal/bytealg.IndexString"], unfollowed := true, recurses := true, named := ["unicode/utf8.first", "unicode/utf8.acceptRanges", "internal/bytealg.MaxLen"], plainKeys := false, apart := false, laid := [("unicode/utf8.acceptRanges", laid_unicode_utf8_acceptRanges), ("unicode/utf8.first", laid_unicode_utf8_first)], narrowed := true }
def DiffBetweenUptoSaid : Prop := diffBetweenUptoRow.holds Tryz.pinned (OpenSpec.upto diffBetweenSpec)

/-- 'darninglaw24.DiffWays', WHERE WHAT IT READS IS OF BULK AT MOST 1048576: true; the input reads as it did. -/
def diffWaysUptoRow : OpenClaim := { program := "ytpckoeicbjfnhaagreatdoor", sum := "e401b0072856985ab1261e01c63413c23a1ce14436a04b316b0037253ca77ce6", func := "darning/darninglaw24.DiffWays", spec := "diffWays", inPlace := ["internal/abi.NoEscape", "internal/bytealg.MakeNoZero", "internal/bytealg.IndexByteString", "internal/bytealg.IndexString"], unfollowed := true, recurses := true, named := ["unicode/utf8.first", "unicode/utf8.acceptRanges", "internal/bytealg.MaxLen"], plainKeys := false, apart := false, laid := [("unicode/utf8.acceptRanges", laid_unicode_utf8_acceptRanges), ("unicode/utf8.first", laid_unicode_utf8_first)], narrowed := true }
def DiffWaysUptoSaid : Prop := diffWaysUptoRow.holds Tryz.pinned (OpenSpec.upto diffWaysSpec)

/-- 'darninglaw24.DiffNothing', WHERE WHAT IT READS IS OF BULK AT MOST 1048576: true; the input reads as it did. -/
def diffNothingUptoRow : OpenClaim := { program := "ytpckoeicbjfnhaagreatdoor", sum := "e401b0072856985ab1261e01c63413c23a1ce14436a04b316b0037253ca77ce6", func := "darning/darninglaw24.DiffNothing", spec := "diffNothing", inPlace := ["internal/abi.NoEscape", "internal/bytealg.MakeNoZero", "internal/bytealg.IndexByteString", "internal/bytealg.IndexString"], unfollowed := true, recurses := true, named := ["unicode/utf8.first", "unicode/utf8.acceptRanges", "internal/bytealg.MaxLen"], plainKeys := false, apart := false, laid := [("unicode/utf8.acceptRanges", laid_unicode_utf8_acceptRanges), ("unicode/utf8.first", laid_unicode_utf8_first)], narrowed := true }
def DiffNothingUptoSaid : Prop := diffNothingUptoRow.holds Tryz.pinned (OpenSpec.upto diffNothingSpec)

end Rows
end Go.Proofs.YtpckoeicbjfnhaaGreatDoor
