/- Contract of the reference's padded. Condition: fewer than 2^40 bytes. -/
import Derived.Test.YtdnnjgjaffkdfaaDoorRefa
namespace Go.Proofs.YtdnnjgjaffkdfaaDoor
open Go Go.RowKit Go.Bul
end Go.Proofs.YtdnnjgjaffkdfaaDoor
