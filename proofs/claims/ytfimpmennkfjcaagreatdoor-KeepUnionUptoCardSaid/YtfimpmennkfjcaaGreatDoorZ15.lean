/- What the document's functions on code points return on any bytes: uput, unext, ufirst. No condition beyond that the argument reads as bytes and the place is no more than their number. What the document's First and Right of texts return on any bytes: ufirst. No condition beyond that the argument reads as bytes. -/
import Derived.Test.YtfimpmennkfjcaaGreatDoorZ02
import Derived.Test.YtfimpmennkfjcaaGreatDoorZ14
import Derived.Deep.RegionWith
namespace Go.Proofs.YtfimpmennkfjcaaGreatDoor
open Go.RowKit
end Go.Proofs.YtfimpmennkfjcaaGreatDoor
namespace Go.Proofs.YtfimpmennkfjcaaGreatDoor
open Go.RowKit
end Go.Proofs.YtfimpmennkfjcaaGreatDoor
