/- schema.by, ByNumber, ByName: the first field that is so. No condition. -/
import Derived.Test.YtphkmpnahnakaaaZ07
namespace Go.Proofs.Ytphkmpnahnakaaa
open Go.RowKit
end Go.Proofs.Ytphkmpnahnakaaa
