/- darningref13: less, Of, Under. At most 2^40 ways. darningref13.Under; darninglaw13.Many. -/
import Derived.Test.YtaefpjecalnbcaaGreatZ32
namespace Go.Proofs.YtaefpjecalnbcaaGreat
open Go.RowKit
end Go.Proofs.YtaefpjecalnbcaaGreat
namespace Go.Proofs.YtaefpjecalnbcaaGreat
open Go.RowKit
end Go.Proofs.YtaefpjecalnbcaaGreat
