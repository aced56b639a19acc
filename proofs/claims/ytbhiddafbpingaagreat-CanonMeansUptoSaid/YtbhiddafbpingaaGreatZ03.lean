/- What the document's Next record returns on any bytes: rnext. The place is a natural number. -/
import Derived.Test.YtbhiddafbpingaaGreatZ02
namespace Go.Proofs.YtbhiddafbpingaaGreat
open Go.RowKit
end Go.Proofs.YtbhiddafbpingaaGreat
