/- What the document's Fault of a field returns, of any schema: fieldFault. The two places lie in the schema. What the document's Check, Right and Field of schemas return, of any schema: scheck, sright, fieldAt. No condition beyond that the argument reads as a schema. -/
import Derived.Test.YtfimpmennkfjcaaGreatDoorZ05
namespace Go.Proofs.YtfimpmennkfjcaaGreatDoor
open Go.RowKit
theorem str_beq (a b:ByteArray):(a.toList == b.toList) = decide (a = b):=by
 rw [Bool.eq_iff_iff,beq_iff_eq,toList_inj,decide_eq_true_iff]
end Go.Proofs.YtfimpmennkfjcaaGreatDoor
namespace Go.Proofs.YtfimpmennkfjcaaGreatDoor
open Go.RowKit
end Go.Proofs.YtfimpmennkfjcaaGreatDoor
