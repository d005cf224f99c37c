/- The reference: Check, Value. The reference: Value. -/
import Derived.Test.YtdnnjgjaffkdfaaDoorSbl
import Derived.Test.YtdnnjgjaffkdfaaDoorORva
namespace Go.Proofs.YtdnnjgjaffkdfaaDoor
open Go Go.RowKit Go.Bul Go.Thg Go.Lin
end Go.Proofs.YtdnnjgjaffkdfaaDoor
namespace Go.Lin
open Go Go.Bul
/-- The first chains, the rest not yet set. -/
def chTo (ch : Ch) (j : Nat) : Array Value := cellsOf .u8 (ch.val.take (16 * j) ++ Go.Thg.zeros (560 - 16 * j))
theorem chTo_put (ch : Ch) (j : Nat) (hj : j < 35) : (splice (chTo ch j).toList (j * 16) (ndC (chN ch j hj)).toList).toArray = chTo ch (j + 1) := by
  unfold chTo
  rw [show ndC (chN ch j hj) = cellsOf .u8 (chN ch j hj).val from rfl, Hp.splice_piece .u8 _ _ j (j * 16) (by omega) (chN ch j hj).len]
  congr 1
  have hl : (ch.val.take (16 * j)).length = 16 * j := by rw [List.length_take, ch.len]; omega
  unfold Hp.putPiece
  rw [List.take_append_of_le_length (by omega), List.take_of_length_le (by omega), List.drop_append, List.drop_of_length_le (by omega), hl, chN_take ch j hj, List.nil_append, List.append_assoc]
  congr 2
  simp only [Go.Thg.zeros, List.drop_replicate]
  congr 1
  omega
end Go.Lin
namespace Go.Proofs.YtdnnjgjaffkdfaaDoor
open Go Go.RowKit Go.Bul Go.Thg Go.Lin
theorem row_v35 : RowTy Tryd.prog 109 560 := ⟨⟨_, Tryd.underlying109, rfl, by kernel_rfl⟩⟩
theorem zero_v35 : ZeroTy Tryd.prog 109 560 (chC ch0) := ⟨⟨.agg _, by kernel_rfl, rfl, chC_size _⟩⟩
theorem row_rva : RowTy Tryd.prog 108 16 := ⟨⟨_, Tryd.underlying108, rfl, by kernel_rfl⟩⟩
end Go.Proofs.YtdnnjgjaffkdfaaDoor
