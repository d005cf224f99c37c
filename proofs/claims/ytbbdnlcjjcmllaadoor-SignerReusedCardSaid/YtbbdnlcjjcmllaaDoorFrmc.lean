/- Openings of more kinds of arguments: arrays of integers, arrays of arrays of bytes, slices of arrays of bytes. -/
import Derived.Test.YtbbdnlcjjcmllaaDoorFrmb
import Derived.Deep.Slices
namespace Go.Proofs.YtbbdnlcjjcmllaaDoor
open Go Go.RowKit Go.WideShapes Go.ChangeShapes Go.ChangeAt Go.Bul
section
variable {H : Type} {enc : TypeId × Value → H} {P : Program}
/-- A slice of arrays of k bytes reads as these bytes. -/
structure RdArr (w : World) (A : Option Addr) (n k : Nat) (bs : List Nat) : Prop where
  len : bs.length = n * k
  bytes : Bytes bs
  at_ : 0 < n → ∃ ad, A = some ad ∧ ad.block < w.heap.size ∧ ∀ j, j < n * k → w.cell? (ad.add j) = some (.int .u8 (bs.getD j 0 : Nat))
end
end Go.Proofs.YtbbdnlcjjcmllaaDoor
