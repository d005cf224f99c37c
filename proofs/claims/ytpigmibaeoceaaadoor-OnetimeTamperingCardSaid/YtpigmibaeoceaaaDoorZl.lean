/- 'x, y := d[0], d[1]' where both are arrays: two values that are read, two new variables, two stores, in whatever order comes up. The walk of bulletinlaw07.OnetimeRecovers. -/
import Derived.Test.YtpigmibaeoceaaaDoorZh
import Derived.Test.YtpigmibaeoceaaaDoorZj
namespace Go.Bul
open Go Go.RowKit
section
variable {P : Program} {ops : Array Oper} {Q : Exit → Act → World → Prop} {G : List Nat} {w0 : World} {L : List Ent} {R : List OwnR}
end
end Go.Bul
namespace Go.Bul
open Go Go.RowKit
/-- A slice of arrays of 16 bytes that lies in old memory. -/
structure FarRows (w : World) (A : Option Addr) (n : Nat) (bs : List Nat) : Prop where
  len : bs.length = n * 16
  bytes : Bytes bs
  at_ : 0 < n → ∃ ad, A = some ad ∧ ad.block < w.heap.size ∧ ∀ j, j < n * 16 → w.cell? (ad.add j) = some (.int .u8 (bs.getD j 0 : Nat))
end Go.Bul
namespace Go.Proofs.YtpigmibaeoceaaaDoor
open Go Go.RowKit Go.Bul
theorem row_pair : RowTy Tryd.prog 23 32 := ⟨⟨_, Tryd.underlying23, rfl, by kernel_rfl⟩⟩
end Go.Proofs.YtpigmibaeoceaaaDoor
