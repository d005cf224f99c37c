/- SignerVerify: what came in. -/
import Derived.Test.YtdnnjgjaffkdfaaDoorSfa
import Derived.Test.YtdnnjgjaffkdfaaDoorSra
namespace Go.Proofs.YtdnnjgjaffkdfaaDoor
open Go Go.RowKit Go.Bul Go.Thg Go.Lin
theorem sverify_row (z : Int) (bs cs : List Nat) (lf : Int) (ch : Ch) (A : Option Addr) (m c : Nat) (path : List Nd) (w : World) (hl : bs.length = 16) (hb : Bytes bs) (hl2 : cs.length = 16) (hb2 : Bytes cs) (hr : NIn w A m path) (hT : Tab w) (hA : Alp w) :
    Calls Tryd.prog 3 #[.int .i64 z, .agg (cellsOf .u8 bs), .agg (cellsOf .u8 cs), .agg (sigC lf ch A m c)] w fun e w' => e = .returned (.bool true) ∧ Below w.heap.size w w' :=
  sverify_any z ⟨bs, hl, hb⟩ ⟨cs, hl2, hb2⟩ lf ch A m c path w hr hT hA
end Go.Proofs.YtdnnjgjaffkdfaaDoor
