/-
  NARROWER THAN 'FOR EVERY INPUT', by the rows' own cells (each row's printed sentence says how): AlgebraParts: loops · AlgebraJoins: loops · AlgebraLaws: loops.
  DERIVED. THE GIVEN ROWS OF THIS SEAT. 3 by the template 'for every input the law returns true; each argument reads behind the call as it read before'; 0 by the template 'total and deterministic' (their statements: YtaefpjecalnbcaaGreatTotals.lean).
  GIVEN WITH THE SEED: the statements are not yours to turn. If you find one false, say at which input.
  Laid BY PROGRAM, IN A SANDBOX (cutbox-rows.mjs): the forced cells as the released guide's own fill.sh prints them over the translation c8f78197689ce97f… (all of the seat's roots in one cut). By AI agents, Wed Nov 11 2026. No macro, syntax, notation, axiom, sorry.
-/
import Derived.Test.YtaefpjecalnbcaaGreatChecked
import GoSem.Claim
import GoSem.ClaimJoined
import GoSem.ClaimMapViews
import Derived.JoinedTies
import Derived.KernelRfl
namespace Go.Proofs.YtaefpjecalnbcaaGreat
/- THE CELL 'sum', in the pinned program and in every row, IS THE sha256 OF THE DUMP (.gsa) THAT YtaefpjecalnbcaaGreatProg.lean LOADS. Nothing in Lean hashes anything: it is a label: what it is worth is what the hold of that sum in a sandbox is worth. -/
noncomputable def Tryz.pinned : Pinned := { name := "ytaefpjecalnbcaagreat", sum := "c8f78197689ce97f007ba5be35119bf6bb92f091c4d47f09433fb72033114e02", checked := Tryz.checked }
namespace Rows
def none {H : Type} : Left H := { results := [], args := [] }

/-- 'darninglaw15.AlgebraParts': WHATEVER THE INPUT: true; the input reads as it did. -/
def algebraPartsSpec : ChangeSpec := { name := "algebraParts", fn := fun _ => fun
  | [d1, d2, d3, d4] => { results := [.lit (.bool true)], args := [d1, d2, d3, d4] }
  | _ => none }
def algebraPartsRow : OpenClaim := { program := "ytaefpjecalnbcaagreat", sum := "c8f78197689ce97f007ba5be35119bf6bb92f091c4d47f09433fb72033114e02", func := "darning/darninglaw15.AlgebraParts", spec := "algebraParts", unfollowed := true, recurses := true, loops := true, plainKeys := false, apart := false }
def AlgebraPartsSaid : Prop := algebraPartsRow.holds Tryz.pinned (OpenSpec.ofChange algebraPartsSpec)

/-- ITS FALSE NEIGHBOUR: 'it returns false'. Refute it at one input. -/
def algebraPartsWrong : ChangeSpec := { name := "algebraParts", fn := fun _ => fun
  | [d1, d2, d3, d4] => { results := [.lit (.bool false)], args := [d1, d2, d3, d4] }
  | _ => none }
def AlgebraPartsWrongFalsely : Prop := algebraPartsRow.holds Tryz.pinned (OpenSpec.ofChange algebraPartsWrong)

/-- 'darninglaw15.AlgebraJoins': WHATEVER THE INPUT: true; the input reads as it did. -/
def algebraJoinsSpec : ChangeSpec := { name := "algebraJoins", fn := fun _ => fun
  | [d1, d2, d3, d4] => { results := [.lit (.bool true)], args := [d1, d2, d3, d4] }
  | _ => none }
def algebraJoinsRow : OpenClaim := { program := "ytaefpjecalnbcaagreat", sum := "c8f78197689ce97f007ba5be35119bf6bb92f091c4d47f09433fb72033114e02", func := "darning/darninglaw15.AlgebraJoins", spec := "algebraJoins", unfollowed := true, recurses := true, loops := true, plainKeys := false, apart := false }
def AlgebraJoinsSaid : Prop := algebraJoinsRow.holds Tryz.pinned (OpenSpec.ofChange algebraJoinsSpec)

/-- ITS FALSE NEIGHBOUR: 'it returns false'. Refute it at one input. -/
def algebraJoinsWrong : ChangeSpec := { name := "algebraJoins", fn := fun _ => fun
  | [d1, d2, d3, d4] => { results := [.lit (.bool false)], args := [d1, d2, d3, d4] }
  | _ => none }
def AlgebraJoinsWrongFalsely : Prop := algebraJoinsRow.holds Tryz.pinned (OpenSpec.ofChange algebraJoinsWrong)

/-- 'darninglaw15.AlgebraLaws': WHATEVER THE INPUT: true; the input reads as it did. -/
def algebraLawsSpec : ChangeSpec := { name := "algebraLaws", fn := fun _ => fun
  | [d1, d2, d3, d4, d5, d6] => { results := [.lit (.bool true)], args := [d1, d2, d3, d4, d5, d6] }
  | _ => none }
def algebraLawsRow : OpenClaim := { program := "ytaefpjecalnbcaagreat", sum := "c8f78197689ce97f007ba5be35119bf6bb92f091c4d47f09433fb72033114e02", func := "darning/darninglaw15.AlgebraLaws", spec := "algebraLaws", unfollowed := true, recurses := true, loops := true, plainKeys := false, apart := false }
def AlgebraLawsSaid : Prop := algebraLawsRow.holds Tryz.pinned (OpenSpec.ofChange algebraLawsSpec)

/-- ITS FALSE NEIGHBOUR: 'it returns false'. Refute it at one input. -/
def algebraLawsWrong : ChangeSpec := { name := "algebraLaws", fn := fun _ => fun
  | [d1, d2, d3, d4, d5, d6] => { results := [.lit (.bool false)], args := [d1, d2, d3, d4, d5, d6] }
  | _ => none }
def AlgebraLawsWrongFalsely : Prop := algebraLawsRow.holds Tryz.pinned (OpenSpec.ofChange algebraLawsWrong)

/- THE SECOND FORM. 'bulk': how many values and letters a reading holds, each counted each time it is reached (what is shared counts as often as it is met; a slice's spare places count too). A statement '..UptoSaid' is the law's where the arguments, and the package variables that the reading takes, are together of bulk at most 1048576: NARROWER than '..Said'. Prove '..Said' where nothing that the law and all that it calls make is longer than what came in: it says more and counts as full. Else prove '..UptoSaid'. A law counts once. -/
mutual
def uptoBulk {H : Type} : DataW H → Nat
  | .lit (.string bytes) => bytes.length + 1
  | .lit _ => 1
  | .nil => 1
  | .ptr d => uptoBulk d + 1
  | .slice elems spare => uptoBulkAll elems + uptoBulkAll spare + 1
  | .agg parts => uptoBulkAll parts + 1
  | .iface _ d => uptoBulk d + 1
  | .map entries => uptoBulkEntries entries + 1
  | .held _ => 1
def uptoBulkAll {H : Type} : List (DataW H) → Nat
  | [] => 0
  | d :: r => uptoBulk d + uptoBulkAll r
def uptoBulkEntries {H : Type} : List (Lit × DataW H) → Nat
  | [] => 0
  | x :: r => uptoBulkEntry x + uptoBulkEntries r
def uptoBulkEntry {H : Type} : Lit × DataW H → Nat
  | (.string bytes, d) => bytes.length + uptoBulk d + 1
  | (_, d) => uptoBulk d + 1
 end
def uptoSmall : (H : Type) → List (DataW H) → Bool := fun _ ds => decide (uptoBulkAll ds ≤ 1048576)
def OpenSpec.upto (s : _root_.Go.ChangeSpec) : _root_.Go.OpenSpec := { _root_.Go.OpenSpec.ofChange s with cond := some uptoSmall }

/-- 'darninglaw15.AlgebraParts', WHERE WHAT IT READS IS OF BULK AT MOST 1048576: true; the input reads as it did. -/
def algebraPartsUptoRow : OpenClaim := { program := "ytaefpjecalnbcaagreat", sum := "c8f78197689ce97f007ba5be35119bf6bb92f091c4d47f09433fb72033114e02", func := "darning/darninglaw15.AlgebraParts", spec := "algebraParts", unfollowed := true, recurses := true, loops := true, plainKeys := false, apart := false, narrowed := true }
def AlgebraPartsUptoSaid : Prop := algebraPartsUptoRow.holds Tryz.pinned (OpenSpec.upto algebraPartsSpec)

/-- 'darninglaw15.AlgebraJoins', WHERE WHAT IT READS IS OF BULK AT MOST 1048576: true; the input reads as it did. -/
def algebraJoinsUptoRow : OpenClaim := { program := "ytaefpjecalnbcaagreat", sum := "c8f78197689ce97f007ba5be35119bf6bb92f091c4d47f09433fb72033114e02", func := "darning/darninglaw15.AlgebraJoins", spec := "algebraJoins", unfollowed := true, recurses := true, loops := true, plainKeys := false, apart := false, narrowed := true }
def AlgebraJoinsUptoSaid : Prop := algebraJoinsUptoRow.holds Tryz.pinned (OpenSpec.upto algebraJoinsSpec)

/-- 'darninglaw15.AlgebraLaws', WHERE WHAT IT READS IS OF BULK AT MOST 1048576: true; the input reads as it did. -/
def algebraLawsUptoRow : OpenClaim := { program := "ytaefpjecalnbcaagreat", sum := "c8f78197689ce97f007ba5be35119bf6bb92f091c4d47f09433fb72033114e02", func := "darning/darninglaw15.AlgebraLaws", spec := "algebraLaws", unfollowed := true, recurses := true, loops := true, plainKeys := false, apart := false, narrowed := true }
def AlgebraLawsUptoSaid : Prop := algebraLawsUptoRow.holds Tryz.pinned (OpenSpec.upto algebraLawsSpec)

end Rows
end Go.Proofs.YtaefpjecalnbcaaGreat
