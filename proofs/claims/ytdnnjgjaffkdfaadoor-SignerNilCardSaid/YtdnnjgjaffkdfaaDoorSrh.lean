/- SignerNil: what came in. -/
import Derived.Test.YtdnnjgjaffkdfaaDoorSfa
import Derived.Test.YtdnnjgjaffkdfaaDoorSni
namespace Go.Proofs.YtdnnjgjaffkdfaaDoor
open Go Go.RowKit Go.Bul Go.Thg Go.Lin
theorem snil_row (l1 : Int) (x : Ch) (A1 : Option Addr) (n1 c1 : Nat) (P : List Nd) (l2 : Int) (y : Ch) (A2 : Option Addr) (n2 c2 : Nat) (Q : List Nd) (z : Int) (w : World) (h1 : NIn w A1 n1 P) (h2 : NIn w A2 n2 Q) (hT : Tab w) (hA : Alp w) :
    Calls Tryd.prog 7 #[.agg (sigC l1 x A1 n1 c1), .agg (sigC l2 y A2 n2 c2), .int .i64 z] w fun e w' => e = .returned (.bool true) ∧ Below w.heap.size w w' :=
  snil_any l1 l2 x y A1 A2 n1 c1 n2 c2 P Q z w h1 h2 hT hA
end Go.Proofs.YtdnnjgjaffkdfaaDoor
