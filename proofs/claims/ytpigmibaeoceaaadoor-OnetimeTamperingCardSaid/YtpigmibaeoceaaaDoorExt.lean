/- Contracts of onetime.Extract. Condition: digests of 16 bytes, signatures of 35 values of 16 bytes. -/
import Derived.Test.YtpigmibaeoceaaaDoorExp
import Derived.Test.YtpigmibaeoceaaaDoorZk
namespace Go.Proofs.YtpigmibaeoceaaaDoor
open Go Go.RowKit Go.Bul
/-- What Extract returns beside an error. -/
abbrev ev0 : Array Value := evc 0 0 0 0 (zeros 16) (zeros 16) (zeros 560) (zeros 560)
end Go.Proofs.YtpigmibaeoceaaaDoor
