/- Contract of onetime.Public. -/
import Derived.Test.YtpigmibaeoceaaaDoorCmp
namespace Go.Proofs.YtpigmibaeoceaaaDoor
open Go Go.RowKit Go.Bul
end Go.Proofs.YtpigmibaeoceaaaDoor
