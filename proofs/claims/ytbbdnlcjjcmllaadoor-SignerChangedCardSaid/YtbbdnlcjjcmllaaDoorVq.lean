/- Contracts of the reference's Leaf, Join. known. -/
import Derived.Test.YtbbdnlcjjcmllaaDoorVp
import Derived.Test.YtbbdnlcjjcmllaaDoorVk
import Derived.Test.YtbbdnlcjjcmllaaDoorVm
import Derived.Lib.SlBytesConst
namespace Go.Proofs.YtbbdnlcjjcmllaaDoor
open Go Go.RowKit Go.Bul Go.Thg Go.Lin
end Go.Proofs.YtbbdnlcjjcmllaaDoor
namespace Go.Lin
open Go Go.Bul
end Go.Lin
namespace Go.Proofs.YtbbdnlcjjcmllaaDoor
open Go Go.RowKit Go.Bul Go.Thg Go.Lin
theorem nin_1 {w w0 : World} {G : List Nat} {L : List Ent} {R : List Thing} {g : Nat} {t : TypeId} {x : Nd} (hM : Mem G w0 L R w) (hL : ⟨g, t, 16, ndC x⟩ ∈ L) : NIn w (some ⟨g, 0, none⟩) 1 [x] := by
  have hB := hM.blk hL
  refine ⟨by rw [ndCells_length]; rfl, fun _ => ⟨g, 0, rfl, hB.lt, fun j u hu => (hB.cell _).trans ?_⟩⟩
  rw [Nat.zero_add]
  have e : ndCells [x] = vals .u8 x.val := by simp [ndCells]
  rw [e] at hu
  simpa [ndC, cellsOf] using hu
end Go.Proofs.YtbbdnlcjjcmllaaDoor
