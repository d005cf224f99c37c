/- Contract of onetime.Public. -/
import Derived.Test.YtpigmibaeoceaaaDoorCmp
namespace Go.Proofs.YtpigmibaeoceaaaDoor
open Go Go.RowKit Go.Bul
theorem bytes_pieces_zeros {f : Nat → List Nat} (hf : ∀ i, Bytes (f i)) (k n : Nat) : Bytes (pieces f k ++ zeros n) := (bytes_pieces hf k).append (bytes_zeros n)
end Go.Proofs.YtpigmibaeoceaaaDoor
