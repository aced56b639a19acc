/- canon.Encode, Size, Value: mayCode, encM, encV. The meaning's weight is at most 2^30. Plain laws: two meanings alike (sameB), a meaning's depth (depthM); as lists are gone through. No condition. Plain laws: canonical bytes mean what is like the meaning (tof_enc). No condition. Plain laws: a right meaning's canonical bytes are valid, at most as deep as it (vmsg_enc). No condition. -/
import Derived.Test.YtfimpmennkfjcaaGreatDoorZ16
import Derived.Test.YtfimpmennkfjcaaGreatDoorZ25
namespace Go.Proofs.YtfimpmennkfjcaaGreatDoor
open Go.RowKit
/-! How long the bytes are. -/
end Go.Proofs.YtfimpmennkfjcaaGreatDoor
namespace Go.Proofs.YtfimpmennkfjcaaGreatDoor
open Go.RowKit
end Go.Proofs.YtfimpmennkfjcaaGreatDoor
namespace Go.Proofs.YtfimpmennkfjcaaGreatDoor
open Go.RowKit
end Go.Proofs.YtfimpmennkfjcaaGreatDoor
namespace Go.Proofs.YtfimpmennkfjcaaGreatDoor
open Go.RowKit
end Go.Proofs.YtfimpmennkfjcaaGreatDoor
