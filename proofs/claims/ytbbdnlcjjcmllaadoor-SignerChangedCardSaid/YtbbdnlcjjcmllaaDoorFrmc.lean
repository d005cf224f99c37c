/- Openings of more kinds of arguments: arrays of integers, arrays of arrays of bytes, slices of arrays of bytes. -/
import Derived.Test.YtbbdnlcjjcmllaaDoorFrmb
import Derived.Deep.Slices
namespace Go.Proofs.YtbbdnlcjjcmllaaDoor
open Go Go.RowKit Go.WideShapes Go.ChangeShapes Go.ChangeAt Go.Bul
section
variable {H : Type} {enc : TypeId × Value → H} {P : Program}
/-- A slice of arrays of k bytes reads as these bytes. -/
structure RdArr (w : World) (A : Option Addr) (n k : Nat) (bs : List Nat) : Prop where
  len : bs.length = n * k
  bytes : Bytes bs
  at_ : 0 < n → ∃ ad, A = some ad ∧ ad.block < w.heap.size ∧ ∀ j, j < n * k → w.cell? (ad.add j) = some (.int .u8 (bs.getD j 0 : Nat))
/-- An integer that came in. -/
theorem int_arg {W : World} {base : Nat} {t : TypeId} {q : IntKind} {v : Value} {d : DataW H} {p : List MemPlace} (ht : P.underlying t = some (.int q))
    (hok : Value.okWide P W .any base t v) (h : DataW.Trod enc P W 0 (fun _ => true) true t v d p) : ∃ z : Int, v = .int q z ∧ (Lit.int q z).wf = true := by
  obtain ⟨n, rfl, _, _, hw⟩ := open_int ht hok h
  exact ⟨n, rfl, hw⟩
end
end Go.Proofs.YtbbdnlcjjcmllaaDoor
