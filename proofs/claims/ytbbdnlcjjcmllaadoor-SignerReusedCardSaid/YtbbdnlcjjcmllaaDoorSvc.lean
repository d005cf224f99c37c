/- SignerReused: what came in. -/
import Derived.Test.YtbbdnlcjjcmllaaDoorSfa
import Derived.Test.YtbbdnlcjjcmllaaDoorWk
namespace Go.Proofs.YtbbdnlcjjcmllaaDoor
open Go Go.RowKit Go.Bul Go.Thg Go.Lin
theorem sreu_row (bs : List Nat) (x y : Nat) (es ds : List Nat) (w : World) (hl : bs.length = 32) (hb : Bytes bs) (hx : x < 256) (hy : y < 256) (hl1 : es.length = 16) (hb1 : Bytes es) (hl2 : ds.length = 16) (hb2 : Bytes ds) (hT : Tab w) (hA : Alp w) :
    Calls Tryd.prog 4 #[.agg (cellsOf .u8 bs), .int .u8 (x : Nat), .int .u8 (y : Nat), .agg (cellsOf .u8 es), .agg (cellsOf .u8 ds)] w fun e w' => e = .returned (.bool true) ∧ Below w.heap.size w w' :=
  sreu_any ⟨bs, hl, hb⟩ x y ⟨es, hl1, hb1⟩ ⟨ds, hl2, hb2⟩ w hx hy hT hA
end Go.Proofs.YtbbdnlcjjcmllaaDoor
