/- Contracts of onetime.Extract. Condition: digests of 16 bytes, signatures of 35 values of 16 bytes. -/
import Derived.Test.YtbbdnlcjjcmllaaDoorXs
import Derived.Test.YtbbdnlcjjcmllaaDoorXu
namespace Go.Proofs.YtbbdnlcjjcmllaaDoor.Once
open Go Go.RowKit Go.Bul Go.Bul.Hp
end Go.Proofs.YtbbdnlcjjcmllaaDoor.Once
