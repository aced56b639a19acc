/- darningref07.Named: the place of the field of a name (namedAt). No condition. darningref13.Way: the way of names (wayP). The schema is right; at most 2^40 names. darningref13.Args, Resolve, Make. Paths are at most 2^39 bytes. -/
import Derived.Test.YtfimpmennkfjcaaGreatDoorZ09
import Derived.Test.YtfimpmennkfjcaaGreatDoorZ34
import Derived.Test.YtfimpmennkfjcaaGreatDoorZ36
import Derived.Test.YtfimpmennkfjcaaGreatDoorZ37
import Derived.StillTailTactics
import Derived.Deep.RegionHeld3
import Derived.Deep.DeepCutAuto
namespace Go.Proofs.YtfimpmennkfjcaaGreatDoor
open Go.RowKit
end Go.Proofs.YtfimpmennkfjcaaGreatDoor
namespace Go.Proofs.YtfimpmennkfjcaaGreatDoor
open Go.RowKit
end Go.Proofs.YtfimpmennkfjcaaGreatDoor
namespace Go.Proofs.YtfimpmennkfjcaaGreatDoor
open Go.RowKit
end Go.Proofs.YtfimpmennkfjcaaGreatDoor
