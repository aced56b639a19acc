/-
  NARROWER THAN 'FOR EVERY INPUT', by the rows' own cells (each row's printed sentence says how): KeepUnion: laid · KeepMasks: laid · KeepPaths: laid · KeepBoth: laid.
  DERIVED. THE GIVEN ROWS OF THIS SEAT. 4 by the template 'for every input the law returns true; each argument reads behind the call as it read before'; 0 by the template 'total and deterministic' (their statements: YtfimpmennkfjcaaGreatDoorTotals.lean).
  GIVEN WITH THE SEED: the statements are not yours to turn. If you find one false, say at which input.
  Laid BY PROGRAM, IN A SANDBOX (cutbox-rows.mjs): the forced cells as the released guide's own fill.sh prints them over the translation 54b9d06264c1957b… (all of the seat's roots in one cut). By AI agents, Wed Nov 11 2026. No macro, syntax, notation, axiom, sorry.
-/
import Derived.Test.YtfimpmennkfjcaaGreatDoorChecked
import GoSem.PinnedTables
import GoSem.Claim
import GoSem.ClaimJoined
import GoSem.ClaimMapViews
import Derived.JoinedTies
import Derived.KernelRfl
namespace Go.Proofs.YtfimpmennkfjcaaGreatDoor
/- THE CELL 'sum', in the pinned program and in every row, IS THE sha256 OF THE DUMP (.gsa) THAT YtfimpmennkfjcaaGreatDoorProg.lean LOADS. Nothing in Lean hashes anything: it is a label: what it is worth is what the hold of that sum in a sandbox is worth. -/
noncomputable def Tryz.pinned : Pinned := { name := "ytfimpmennkfjcaagreatdoor", sum := "54b9d06264c1957bb98c67e73deb3d697801cdd7324b49d4d04ccdbd1bc294bb", checked := Tryz.checked }
namespace Rows
def none {H : Type} : Left H := { results := [], args := [] }

/- WHAT THE LISTED PACKAGE-LEVEL VARIABLES READ AS WHEN THE CALL BEGINS. Each datum BY PROGRAM (the guide's laid-datum.mjs) off the statement by which the dump's own 'gosem.cut.vars' lays the variable. In a bare row this is a premise. The card (YtfimpmennkfjcaaGreatDoorCards.lean) ties it to the program's text. -/
def laid_unicode_utf8_acceptRanges {H : Type} : DataW H := .agg [.agg [.lit (.int .u8 128), .lit (.int .u8 191)], .agg [.lit (.int .u8 160), .lit (.int .u8 191)], .agg [.lit (.int .u8 128), .lit (.int .u8 159)], .agg [.lit (.int .u8 144), .lit (.int .u8 191)], .agg [.lit (.int .u8 128), .lit (.int .u8 143)], .agg [.lit (.int .u8 0), .lit (.int .u8 0)], .agg [.lit (.int .u8 0), .lit (.int .u8 0)], .agg [.lit (.int .u8 0), .lit (.int .u8 0)], .agg [.lit (.int .u8 0), .lit (.int .u8 0)], .agg [.lit (.int .u8 0), .lit (.int .u8 0)], .agg [.lit (.int .u8 0), .lit (.int .u8 0)], .agg [.lit (.int .u8 0), .lit (.int .u8 0)], .agg [.lit (.int .u8 0), .lit (.int .u8 0)], .agg [.lit (.int .u8 0), .lit (.int .u8 0)], .agg [.lit (.int .u8 0), .lit (.int .u8 0)], .agg [.lit (.int .u8 0), .lit (.int .u8 0)]]
/-- One of Go's own tables, pinned by name: the form's constant. -/
def laid_unicode_utf8_first : DataW Unit := Go.Pinned.utf8First

/-- 'darninglaw19.KeepUnion': WHATEVER THE INPUT: true; the input reads as it did. -/
def keepUnionSpec : ChangeSpec := { name := "keepUnion", fn := fun _ => fun
  | [d1, d2, d3, d4, d5, d6] => { results := [.lit (.bool true)], args := [d1, d2, d3, d4, d5, d6] }
  | _ => none }
def keepUnionRow : OpenClaim := { program := "ytfimpmennkfjcaagreatdoor", sum := "54b9d06264c1957bb98c67e73deb3d697801cdd7324b49d4d04ccdbd1bc294bb", func := "darning/darninglaw19.KeepUnion", spec := "keepUnion", inPlace := ["internal/bytealg.IndexByteString", "internal/bytealg.IndexString", "internal/abi.NoEscape", "internal/bytealg.MakeNoZero"], unfollowed := true, recurses := true, named := ["unicode/utf8.first", "unicode/utf8.acceptRanges", "internal/bytealg.MaxLen"], plainKeys := false, apart := false, laid := [("unicode/utf8.acceptRanges", laid_unicode_utf8_acceptRanges), ("unicode/utf8.first", laid_unicode_utf8_first)] }
def KeepUnionSaid : Prop := keepUnionRow.holds Tryz.pinned (OpenSpec.ofChange keepUnionSpec)

/-- ITS FALSE NEIGHBOUR: 'it returns false'. Refute it at one input. -/
def keepUnionWrong : ChangeSpec := { name := "keepUnion", fn := fun _ => fun
  | [d1, d2, d3, d4, d5, d6] => { results := [.lit (.bool false)], args := [d1, d2, d3, d4, d5, d6] }
  | _ => none }
def KeepUnionWrongFalsely : Prop := keepUnionRow.holds Tryz.pinned (OpenSpec.ofChange keepUnionWrong)

/-- 'darninglaw19.KeepMasks': WHATEVER THE INPUT: true; the input reads as it did. -/
def keepMasksSpec : ChangeSpec := { name := "keepMasks", fn := fun _ => fun
  | [d1, d2, d3, d4, d5] => { results := [.lit (.bool true)], args := [d1, d2, d3, d4, d5] }
  | _ => none }
def keepMasksRow : OpenClaim := { program := "ytfimpmennkfjcaagreatdoor", sum := "54b9d06264c1957bb98c67e73deb3d697801cdd7324b49d4d04ccdbd1bc294bb", func := "darning/darninglaw19.KeepMasks", spec := "keepMasks", inPlace := ["internal/bytealg.IndexByteString", "internal/bytealg.IndexString", "internal/abi.NoEscape", "internal/bytealg.MakeNoZero"], unfollowed := true, recurses := true, named := ["unicode/utf8.first", "unicode/utf8.acceptRanges", "internal/bytealg.MaxLen"], plainKeys := false, apart := false, laid := [("unicode/utf8.acceptRanges", laid_unicode_utf8_acceptRanges), ("unicode/utf8.first", laid_unicode_utf8_first)] }
def KeepMasksSaid : Prop := keepMasksRow.holds Tryz.pinned (OpenSpec.ofChange keepMasksSpec)

/-- ITS FALSE NEIGHBOUR: 'it returns false'. Refute it at one input. -/
def keepMasksWrong : ChangeSpec := { name := "keepMasks", fn := fun _ => fun
  | [d1, d2, d3, d4, d5] => { results := [.lit (.bool false)], args := [d1, d2, d3, d4, d5] }
  | _ => none }
def KeepMasksWrongFalsely : Prop := keepMasksRow.holds Tryz.pinned (OpenSpec.ofChange keepMasksWrong)

/-- 'darninglaw19.KeepPaths': WHATEVER THE INPUT: true; the input reads as it did. -/
def keepPathsSpec : ChangeSpec := { name := "keepPaths", fn := fun _ => fun
  | [d1, d2, d3, d4, d5] => { results := [.lit (.bool true)], args := [d1, d2, d3, d4, d5] }
  | _ => none }
def keepPathsRow : OpenClaim := { program := "ytfimpmennkfjcaagreatdoor", sum := "54b9d06264c1957bb98c67e73deb3d697801cdd7324b49d4d04ccdbd1bc294bb", func := "darning/darninglaw19.KeepPaths", spec := "keepPaths", inPlace := ["internal/bytealg.IndexByteString", "internal/bytealg.IndexString", "internal/abi.NoEscape", "internal/bytealg.MakeNoZero"], unfollowed := true, recurses := true, named := ["unicode/utf8.first", "unicode/utf8.acceptRanges", "internal/bytealg.MaxLen"], plainKeys := false, apart := false, laid := [("unicode/utf8.acceptRanges", laid_unicode_utf8_acceptRanges), ("unicode/utf8.first", laid_unicode_utf8_first)] }
def KeepPathsSaid : Prop := keepPathsRow.holds Tryz.pinned (OpenSpec.ofChange keepPathsSpec)

/-- ITS FALSE NEIGHBOUR: 'it returns false'. Refute it at one input. -/
def keepPathsWrong : ChangeSpec := { name := "keepPaths", fn := fun _ => fun
  | [d1, d2, d3, d4, d5] => { results := [.lit (.bool false)], args := [d1, d2, d3, d4, d5] }
  | _ => none }
def KeepPathsWrongFalsely : Prop := keepPathsRow.holds Tryz.pinned (OpenSpec.ofChange keepPathsWrong)

/-- 'darninglaw19.KeepBoth': WHATEVER THE INPUT: true; the input reads as it did. -/
def keepBothSpec : ChangeSpec := { name := "keepBoth", fn := fun _ => fun
  | [d1, d2, d3, d4, d5] => { results := [.lit (.bool true)], args := [d1, d2, d3, d4, d5] }
  | _ => none }
def keepBothRow : OpenClaim := { program := "ytfimpmennkfjcaagreatdoor", sum := "54b9d06264c1957bb98c67e73deb3d697801cdd7324b49d4d04ccdbd1bc294bb", func := "darning/darninglaw19.KeepBoth", spec := "keepBoth", inPlace := ["internal/bytealg.IndexByteString", "internal/bytealg.IndexString", "internal/abi.NoEscape", "internal/bytealg.MakeNoZero"], unfollowed := true, recurses := true, named := ["unicode/utf8.first", "unicode/utf8.acceptRanges", "internal/bytealg.MaxLen"], plainKeys := false, apart := false, laid := [("unicode/utf8.acceptRanges", laid_unicode_utf8_acceptRanges), ("unicode/utf8.first", laid_unicode_utf8_first)] }
def KeepBothSaid : Prop := keepBothRow.holds Tryz.pinned (OpenSpec.ofChange keepBothSpec)

/-- ITS FALSE NEIGHBOUR: 'it returns false'. Refute it at one input. -/
def keepBothWrong : ChangeSpec := { name := "keepBoth", fn := fun _ => fun
  | [d1, d2, d3, d4, d5] => { results := [.lit (.bool false)], args := [d1, d2, d3, d4, d5] }
  | _ => none }
def KeepBothWrongFalsely : Prop := keepBothRow.holds Tryz.pinned (OpenSpec.ofChange keepBothWrong)

/- THE SECOND FORM. 'bulk': how many values and letters a reading holds, each counted each time it is reached (what is shared counts as often as it is met; a slice's spare places count too). A statement '..UptoSaid' is the law's where the arguments, and the package variables that the reading takes, are together of bulk at most 1048576: NARROWER than '..Said'. Prove '..Said' where nothing that the law and all that it calls make is longer than what came in: it says more and counts as full. Else prove '..UptoSaid'. A law counts once. -/
mutual
def uptoBulk {H : Type} : DataW H → Nat
  | .lit (.string bytes) => bytes.length + 1
  | .lit _ => 1
  | .nil => 1
  | .ptr d => uptoBulk d + 1
  | .slice elems spare => uptoBulkAll elems + uptoBulkAll spare + 1
  | .agg parts => uptoBulkAll parts + 1
  | .iface _ d => uptoBulk d + 1
  | .map entries => uptoBulkEntries entries + 1
  | .held _ => 1
def uptoBulkAll {H : Type} : List (DataW H) → Nat
  | [] => 0
  | d :: r => uptoBulk d + uptoBulkAll r
def uptoBulkEntries {H : Type} : List (Lit × DataW H) → Nat
  | [] => 0
  | x :: r => uptoBulkEntry x + uptoBulkEntries r
def uptoBulkEntry {H : Type} : Lit × DataW H → Nat
  | (.string bytes, d) => bytes.length + uptoBulk d + 1
  | (_, d) => uptoBulk d + 1
 end
def uptoSmall : (H : Type) → List (DataW H) → Bool := fun _ ds => decide (uptoBulkAll ds ≤ 1048576)
def OpenSpec.upto (s : _root_.Go.ChangeSpec) : _root_.Go.OpenSpec := { _root_.Go.OpenSpec.ofChange s with cond := some uptoSmall }

/-- 'darninglaw19.KeepUnion', WHERE WHAT IT READS IS OF BULK AT MOST 1048576: true; the input reads as it did. -/
def keepUnionUptoRow : OpenClaim := { program := "ytfimpmennkfjcaagreatdoor", sum := "54b9d06264c1957bb98c67e73deb3d697801cdd7324b49d4d04ccdbd1bc294bb", func := "darning/darninglaw19.KeepUnion", spec := "keepUnion", inPlace := ["internal/bytealg.IndexByteString", "internal/bytealg.IndexString", "internal/abi.NoEscape", "internal/bytealg.MakeNoZero"], unfollowed := true, recurses := true, named := ["unicode/utf8.first", "unicode/utf8.acceptRanges", "internal/bytealg.MaxLen"], plainKeys := false, apart := false, laid := [("unicode/utf8.acceptRanges", laid_unicode_utf8_acceptRanges), ("unicode/utf8.first", laid_unicode_utf8_first)], narrowed := true }
def KeepUnionUptoSaid : Prop := keepUnionUptoRow.holds Tryz.pinned (OpenSpec.upto keepUnionSpec)

/-- 'darninglaw19.KeepMasks', WHERE WHAT IT READS IS OF BULK AT MOST 1048576: true; the input reads as it did. -/
def keepMasksUptoRow : OpenClaim := { program := "ytfimpmennkfjcaagreatdoor", sum := "54b9d06264c1957bb98c67e73deb3d697801cdd7324b49d4d04ccdbd1bc294bb", func := "darning/darninglaw19.KeepMasks", spec := "keepMasks", inPlace := ["internal/bytealg.IndexByteString", "internal/bytealg.IndexString", "internal/abi.NoEscape", "internal/bytealg.MakeNoZero"], unfollowed := true, recurses := true, named := ["unicode/utf8.first", "unicode/utf8.acceptRanges", "internal/bytealg.MaxLen"], plainKeys := false, apart := false, laid := [("unicode/utf8.acceptRanges", laid_unicode_utf8_acceptRanges), ("unicode/utf8.first", laid_unicode_utf8_first)], narrowed := true }
def KeepMasksUptoSaid : Prop := keepMasksUptoRow.holds Tryz.pinned (OpenSpec.upto keepMasksSpec)

/-- 'darninglaw19.KeepPaths', WHERE WHAT IT READS IS OF BULK AT MOST 1048576: true; the input reads as it did. -/
def keepPathsUptoRow : OpenClaim := { program := "ytfimpmennkfjcaagreatdoor", sum := "54b9d06264c1957bb98c67e73deb3d697801cdd7324b49d4d04ccdbd1bc294bb", func := "darning/darninglaw19.KeepPaths", spec := "keepPaths", inPlace := ["internal/bytealg.IndexByteString", "internal/bytealg.IndexString", "internal/abi.NoEscape", "internal/bytealg.MakeNoZero"], unfollowed := true, recurses := true, named := ["unicode/utf8.first", "unicode/utf8.acceptRanges", "internal/bytealg.MaxLen"], plainKeys := false, apart := false, laid := [("unicode/utf8.acceptRanges", laid_unicode_utf8_acceptRanges), ("unicode/utf8.first", laid_unicode_utf8_first)], narrowed := true }
def KeepPathsUptoSaid : Prop := keepPathsUptoRow.holds Tryz.pinned (OpenSpec.upto keepPathsSpec)

/-- 'darninglaw19.KeepBoth', WHERE WHAT IT READS IS OF BULK AT MOST 1048576: true; the input reads as it did. -/
def keepBothUptoRow : OpenClaim := { program := "ytfimpmennkfjcaagreatdoor", sum := "54b9d06264c1957bb98c67e73deb3d697801cdd7324b49d4d04ccdbd1bc294bb", func := "darning/darninglaw19.KeepBoth", spec := "keepBoth", inPlace := ["internal/bytealg.IndexByteString", "internal/bytealg.IndexString", "internal/abi.NoEscape", "internal/bytealg.MakeNoZero"], unfollowed := true, recurses := true, named := ["unicode/utf8.first", "unicode/utf8.acceptRanges", "internal/bytealg.MaxLen"], plainKeys := false, apart := false, laid := [("unicode/utf8.acceptRanges", laid_unicode_utf8_acceptRanges), ("unicode/utf8.first", laid_unicode_utf8_first)], narrowed := true }
def KeepBothUptoSaid : Prop := keepBothUptoRow.holds Tryz.pinned (OpenSpec.upto keepBothSpec)

end Rows
end Go.Proofs.YtfimpmennkfjcaaGreatDoor
