/- Contract of onetime.Sign. -/
import Derived.Test.YtpigmibaeoceaaaDoorEnd
namespace Go.Proofs.YtpigmibaeoceaaaDoor
open Go Go.RowKit Go.Bul
end Go.Proofs.YtpigmibaeoceaaaDoor
