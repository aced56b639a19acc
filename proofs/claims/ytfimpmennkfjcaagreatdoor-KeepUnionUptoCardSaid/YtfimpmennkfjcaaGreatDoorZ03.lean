/- What the document's Next record returns on any bytes: rnext. The place is a natural number. -/
import Derived.Test.YtfimpmennkfjcaaGreatDoorZ02
namespace Go.Proofs.YtfimpmennkfjcaaGreatDoor
open Go.RowKit
end Go.Proofs.YtfimpmennkfjcaaGreatDoor
