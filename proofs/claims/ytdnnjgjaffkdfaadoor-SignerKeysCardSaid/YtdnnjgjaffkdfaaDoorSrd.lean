/- SignerKeys: what came in. -/
import Derived.Test.YtdnnjgjaffkdfaaDoorSfa
import Derived.Test.YtdnnjgjaffkdfaaDoorSrc
namespace Go.Proofs.YtdnnjgjaffkdfaaDoor
open Go Go.RowKit Go.Bul Go.Thg Go.Lin
theorem skeys_row (bs : List Nat) (x : Nat) (z : Int) (w : World) (hl : bs.length = 32) (hb : Bytes bs) (hx : x < 256) (hT : Tab w) (hA : Alp w) :
    Calls Tryd.prog 4 #[.agg (cellsOf .u8 bs), .int .u8 (x : Nat), .int .i64 z] w fun e w' => e = .returned (.bool true) ∧ Below w.heap.size w w' :=
  skeys_any ⟨bs, hl, hb⟩ x z w hx hT hA
end Go.Proofs.YtdnnjgjaffkdfaaDoor
