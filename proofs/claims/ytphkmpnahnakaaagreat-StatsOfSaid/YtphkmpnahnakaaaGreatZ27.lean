/- Parts of a proof: texts of the author, merged. No condition of their own. -/
import Derived.Test.YtphkmpnahnakaaaGreatZ18
import Derived.Test.YtphkmpnahnakaaaGreatZ19
import Derived.Test.YtphkmpnahnakaaaGreatZ20
import Derived.Test.YtphkmpnahnakaaaGreatZ25
import Derived.Test.YtphkmpnahnakaaaGreatZ26
namespace Go.Proofs.YtphkmpnahnakaaaGreat
open Go.RowKit
end Go.Proofs.YtphkmpnahnakaaaGreat
namespace Go.Proofs.YtphkmpnahnakaaaGreat
end Go.Proofs.YtphkmpnahnakaaaGreat
namespace Go.Proofs.YtphkmpnahnakaaaGreat
open Go.RowKit
end Go.Proofs.YtphkmpnahnakaaaGreat
namespace Go.Proofs.YtphkmpnahnakaaaGreat
open Go.RowKit
end Go.Proofs.YtphkmpnahnakaaaGreat
