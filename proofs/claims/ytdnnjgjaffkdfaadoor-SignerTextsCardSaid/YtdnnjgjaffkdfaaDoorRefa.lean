/- Contracts of the reference's rotate (at ten counts) and constants. Condition of rotate: the word is below 2^32. -/
import Derived.Test.YtdnnjgjaffkdfaaDoorVg
namespace Go.Proofs.YtdnnjgjaffkdfaaDoor
open Go Go.RowKit Go.Bul
end Go.Proofs.YtdnnjgjaffkdfaaDoor
