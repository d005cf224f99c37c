/- SignerSign: what came in. -/
import Derived.Test.YtdnnjgjaffkdfaaDoorSfa
import Derived.Test.YtdnnjgjaffkdfaaDoorSrg
namespace Go.Proofs.YtdnnjgjaffkdfaaDoor
open Go Go.RowKit Go.Bul Go.Thg Go.Lin
theorem ssign_row (bs : List Nat) (x : Nat) (z : Int) (ds : List Nat) (w : World) (hl : bs.length = 32) (hb : Bytes bs) (hx : x < 256) (hl2 : ds.length = 16) (hb2 : Bytes ds) (hT : Tab w) (hA : Alp w) :
    Calls Tryd.prog 5 #[.agg (cellsOf .u8 bs), .int .u8 (x : Nat), .int .i64 z, .agg (cellsOf .u8 ds)] w fun e w' => e = .returned (.bool true) ∧ Below w.heap.size w w' :=
  ssgn_any ⟨bs, hl, hb⟩ x z ⟨ds, hl2, hb2⟩ w hx hT hA
end Go.Proofs.YtdnnjgjaffkdfaaDoor
