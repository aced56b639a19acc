/- darningref15.Part: what a mask keeps, or leaves, of a right meaning (partM). Meanings of at most 2^40 things. -/
import Derived.Test.YtaefpjecalnbcaaGreatZ06
import Derived.Test.YtaefpjecalnbcaaGreatZ11
import Derived.Test.YtaefpjecalnbcaaGreatZ13
import Derived.Test.YtaefpjecalnbcaaGreatZ15
import Derived.Test.YtaefpjecalnbcaaGreatZ18
import Derived.Test.YtaefpjecalnbcaaGreatZ25
import Derived.Test.YtaefpjecalnbcaaGreatZ27
import Derived.Test.YtaefpjecalnbcaaGreatZ30
import Derived.Test.YtaefpjecalnbcaaGreatZ33
import Derived.StillTailTactics
import Derived.Deep.RegionHeld3
import Derived.Deep.CutBlock
import Derived.Deep.CutRange
namespace Go.Proofs.YtaefpjecalnbcaaGreat
open Go.RowKit Go.Shelf
end Go.Proofs.YtaefpjecalnbcaaGreat
