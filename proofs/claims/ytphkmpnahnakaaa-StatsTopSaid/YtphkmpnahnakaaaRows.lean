/-
  No cell of these rows narrows 'for every input' (looked for: loops, veiled, ifaces, maps, wideKeys, modest, calm, conditions, laid).
  DERIVED. THE GIVEN ROWS OF THIS SEAT. 3 by the template 'for every input the law returns true; each argument reads behind the call as it read before'; 0 by the template 'total and deterministic' (their statements: YtphkmpnahnakaaaTotals.lean).
  GIVEN WITH THE SEED: the statements are not yours to turn. If you find one false, say at which input.
  Laid BY PROGRAM, IN A SANDBOX (cutbox-rows.mjs): the forced cells as the released guide's own fill.sh prints them over the translation e37560e62e10c627… (all of the seat's roots in one cut). By AI agents, Wed Nov 11 2026. No macro, syntax, notation, axiom, sorry.
-/
import Derived.Test.YtphkmpnahnakaaaChecked
import GoSem.Claim
import GoSem.ClaimJoined
import GoSem.ClaimMapViews
import Derived.JoinedTies
import Derived.KernelRfl
namespace Go.Proofs.Ytphkmpnahnakaaa
/- THE CELL 'sum', in the pinned program and in every row, IS THE sha256 OF THE DUMP (.gsa) THAT YtphkmpnahnakaaaProg.lean LOADS. Nothing in Lean hashes anything: it is a label: what it is worth is what the hold of that sum in a sandbox is worth. -/
noncomputable def Try.pinned : Pinned := { name := "ytphkmpnahnakaaa", sum := "e37560e62e10c627da48ca91e872a3da7ddf4cd85edc677f4f15b3e19768ec00", checked := Try.checked }
namespace Rows
def none {H : Type} : Left H := { results := [], args := [] }

/-- 'darninglaw28.StatsAdds': WHATEVER THE INPUT: true; the input reads as it did. -/
def statsAddsSpec : ChangeSpec := { name := "statsAdds", fn := fun _ => fun
  | [d1, d2, d3, d4, d5] => { results := [.lit (.bool true)], args := [d1, d2, d3, d4, d5] }
  | _ => none }
def statsAddsRow : OpenClaim := { program := "ytphkmpnahnakaaa", sum := "e37560e62e10c627da48ca91e872a3da7ddf4cd85edc677f4f15b3e19768ec00", func := "darning/darninglaw28.StatsAdds", spec := "statsAdds", unfollowed := true, recurses := true, plainKeys := false, apart := false }
def StatsAddsSaid : Prop := statsAddsRow.holds Try.pinned (OpenSpec.ofChange statsAddsSpec)

/-- ITS FALSE NEIGHBOUR: 'it returns false'. Refute it at one input. -/
def statsAddsWrong : ChangeSpec := { name := "statsAdds", fn := fun _ => fun
  | [d1, d2, d3, d4, d5] => { results := [.lit (.bool false)], args := [d1, d2, d3, d4, d5] }
  | _ => none }
def StatsAddsWrongFalsely : Prop := statsAddsRow.holds Try.pinned (OpenSpec.ofChange statsAddsWrong)

/-- 'darninglaw28.StatsWhole': WHATEVER THE INPUT: true; the input reads as it did. -/
def statsWholeSpec : ChangeSpec := { name := "statsWhole", fn := fun _ => fun
  | [d1, d2, d3, d4] => { results := [.lit (.bool true)], args := [d1, d2, d3, d4] }
  | _ => none }
def statsWholeRow : OpenClaim := { program := "ytphkmpnahnakaaa", sum := "e37560e62e10c627da48ca91e872a3da7ddf4cd85edc677f4f15b3e19768ec00", func := "darning/darninglaw28.StatsWhole", spec := "statsWhole", inPlace := ["internal/bytealg.IndexByteString", "internal/bytealg.IndexString"], unfollowed := true, recurses := true, named := ["internal/bytealg.MaxLen"], plainKeys := false, apart := false }
def StatsWholeSaid : Prop := statsWholeRow.holds Try.pinned (OpenSpec.ofChange statsWholeSpec)

/-- ITS FALSE NEIGHBOUR: 'it returns false'. Refute it at one input. -/
def statsWholeWrong : ChangeSpec := { name := "statsWhole", fn := fun _ => fun
  | [d1, d2, d3, d4] => { results := [.lit (.bool false)], args := [d1, d2, d3, d4] }
  | _ => none }
def StatsWholeWrongFalsely : Prop := statsWholeRow.holds Try.pinned (OpenSpec.ofChange statsWholeWrong)

/-- 'darninglaw28.StatsTop': WHATEVER THE INPUT: true; the input reads as it did. -/
def statsTopSpec : ChangeSpec := { name := "statsTop", fn := fun _ => fun
  | [d1, d2] => { results := [.lit (.bool true)], args := [d1, d2] }
  | _ => none }
def statsTopRow : OpenClaim := { program := "ytphkmpnahnakaaa", sum := "e37560e62e10c627da48ca91e872a3da7ddf4cd85edc677f4f15b3e19768ec00", func := "darning/darninglaw28.StatsTop", spec := "statsTop", inPlace := ["internal/bytealg.IndexByteString", "internal/bytealg.IndexString"], unfollowed := true, recurses := true, named := ["internal/bytealg.MaxLen"], plainKeys := false, apart := false }
def StatsTopSaid : Prop := statsTopRow.holds Try.pinned (OpenSpec.ofChange statsTopSpec)

/-- ITS FALSE NEIGHBOUR: 'it returns false'. Refute it at one input. -/
def statsTopWrong : ChangeSpec := { name := "statsTop", fn := fun _ => fun
  | [d1, d2] => { results := [.lit (.bool false)], args := [d1, d2] }
  | _ => none }
def StatsTopWrongFalsely : Prop := statsTopRow.holds Try.pinned (OpenSpec.ofChange statsTopWrong)

/- THE SECOND FORM. 'bulk': how many values and letters a reading holds, each counted each time it is reached (what is shared counts as often as it is met; a slice's spare places count too). A statement '..UptoSaid' is the law's where the arguments, and the package variables that the reading takes, are together of bulk at most 1048576: NARROWER than '..Said'. Prove '..Said' where nothing that the law and all that it calls make is longer than what came in: it says more and counts as full. Else prove '..UptoSaid'. A law counts once. -/
mutual
def uptoBulk {H : Type} : DataW H → Nat
  | .lit (.string bytes) => bytes.length + 1
  | .lit _ => 1
  | .nil => 1
  | .ptr d => uptoBulk d + 1
  | .slice elems spare => uptoBulkAll elems + uptoBulkAll spare + 1
  | .agg parts => uptoBulkAll parts + 1
  | .iface _ d => uptoBulk d + 1
  | .map entries => uptoBulkEntries entries + 1
  | .held _ => 1
def uptoBulkAll {H : Type} : List (DataW H) → Nat
  | [] => 0
  | d :: r => uptoBulk d + uptoBulkAll r
def uptoBulkEntries {H : Type} : List (Lit × DataW H) → Nat
  | [] => 0
  | x :: r => uptoBulkEntry x + uptoBulkEntries r
def uptoBulkEntry {H : Type} : Lit × DataW H → Nat
  | (.string bytes, d) => bytes.length + uptoBulk d + 1
  | (_, d) => uptoBulk d + 1
 end
def uptoSmall : (H : Type) → List (DataW H) → Bool := fun _ ds => decide (uptoBulkAll ds ≤ 1048576)
def OpenSpec.upto (s : _root_.Go.ChangeSpec) : _root_.Go.OpenSpec := { _root_.Go.OpenSpec.ofChange s with cond := some uptoSmall }

/-- 'darninglaw28.StatsAdds', WHERE WHAT IT READS IS OF BULK AT MOST 1048576: true; the input reads as it did. -/
def statsAddsUptoRow : OpenClaim := { program := "ytphkmpnahnakaaa", sum := "e37560e62e10c627da48ca91e872a3da7ddf4cd85edc677f4f15b3e19768ec00", func := "darning/darninglaw28.StatsAdds", spec := "statsAdds", unfollowed := true, recurses := true, plainKeys := false, apart := false, narrowed := true }
def StatsAddsUptoSaid : Prop := statsAddsUptoRow.holds Try.pinned (OpenSpec.upto statsAddsSpec)

/-- 'darninglaw28.StatsWhole', WHERE WHAT IT READS IS OF BULK AT MOST 1048576: true; the input reads as it did. -/
def statsWholeUptoRow : OpenClaim := { program := "ytphkmpnahnakaaa", sum := "e37560e62e10c627da48ca91e872a3da7ddf4cd85edc677f4f15b3e19768ec00", func := "darning/darninglaw28.StatsWhole", spec := "statsWhole", inPlace := ["internal/bytealg.IndexByteString", "internal/bytealg.IndexString"], unfollowed := true, recurses := true, named := ["internal/bytealg.MaxLen"], plainKeys := false, apart := false, narrowed := true }
def StatsWholeUptoSaid : Prop := statsWholeUptoRow.holds Try.pinned (OpenSpec.upto statsWholeSpec)

/-- 'darninglaw28.StatsTop', WHERE WHAT IT READS IS OF BULK AT MOST 1048576: true; the input reads as it did. -/
def statsTopUptoRow : OpenClaim := { program := "ytphkmpnahnakaaa", sum := "e37560e62e10c627da48ca91e872a3da7ddf4cd85edc677f4f15b3e19768ec00", func := "darning/darninglaw28.StatsTop", spec := "statsTop", inPlace := ["internal/bytealg.IndexByteString", "internal/bytealg.IndexString"], unfollowed := true, recurses := true, named := ["internal/bytealg.MaxLen"], plainKeys := false, apart := false, narrowed := true }
def StatsTopUptoSaid : Prop := statsTopUptoRow.holds Try.pinned (OpenSpec.upto statsTopSpec)

end Rows
end Go.Proofs.Ytphkmpnahnakaaa
