/- Contract of the reference's schedule. Condition: the slice reads as 64 bytes. -/
import Derived.Test.YtdnnjgjaffkdfaaDoorRefb
namespace Go.Proofs.YtdnnjgjaffkdfaaDoor
open Go Go.RowKit Go.Bul
structure SchInv (w : World) (m : Nat → Nat) (t : Nat) (wr : World) : Prop where
  res : Blk wr w.heap.size 178 (cellsOf .u32 (List.replicate 64 0))
  ex : ∃ l : List Nat, l.length = 64 ∧ (∀ i, i < t → l.getD i 0 = W m i) ∧ Blk wr (w.heap.size + 1) 178 (cellsOf .u32 l)
  old : Below w.heap.size w wr
theorem SchInv.next {w wr : World} {m : Nat → Nat} {k : Nat} (h : SchInv w m k wr) (hk : k < 64) : SchInv w m (k + 1) (wr.setCell ⟨w.heap.size + 1, k, none⟩ (.int .u32 (W m k : Nat))).drew := by
  obtain ⟨hres, ⟨l, hl, hlk, hB⟩, hold⟩ := h
  refine ⟨(hres.far (by dsimp only; omega) _).drew, ⟨l.set k (W m k), by simp [hl], fun i hi => ?_, ?_⟩, (hold.setCell (by simp) _).drew⟩
  · rw [getD_set _ _ _ _ (by omega)]
    split
    · rename_i he; rw [he]
    · rename_i he; exact hlk i (by omega)
  · rw [← cellsOf_set]
    exact (hB.set _ _).drew
end Go.Proofs.YtdnnjgjaffkdfaaDoor
