/- darningref19.Part: what a mask keeps, or leaves, of valid bytes (kpart). At most 2^30 bytes. darningref19.Has: wayHas. At most 2^30 bytes. -/
import Derived.Test.YtfimpmennkfjcaaGreatDoorZ20
import Derived.Test.YtfimpmennkfjcaaGreatDoorZ27
import Derived.Test.YtfimpmennkfjcaaGreatDoorZ29
import Derived.Test.YtfimpmennkfjcaaGreatDoorZ36
import Derived.Test.YtfimpmennkfjcaaGreatDoorZ43
namespace Go.Proofs.YtfimpmennkfjcaaGreatDoor
open Go.RowKit Go.Shelf
end Go.Proofs.YtfimpmennkfjcaaGreatDoor
namespace Go.Proofs.YtfimpmennkfjcaaGreatDoor
open Go.RowKit Go.Shelf
end Go.Proofs.YtfimpmennkfjcaaGreatDoor
