/- Arrays of two or three integers that came in. -/
import Derived.Test.YtlgkliafocbogaaDoorFrmd
namespace Go.Proofs.YtlgkliafocbogaaDoor
open Go Go.RowKit Go.WideShapes Go.ChangeShapes Go.ChangeAt Go.Bul
theorem i2_arg {H : Type} {enc : TypeId × Value → H} {P : Program} {W : World} {base : Nat} {t e : TypeId} {v : Value} {d : DataW H} {p : List MemPlace} (ht : P.underlying t = some (.array 2 e)) (he : P.underlying e = some (.int .i64)) (hc : P.cellsOf e = 1) (hct : P.cellsOf t = 2)
    (hok : Value.okWide P W .any base t v) (h : DataW.Trod enc P W 0 (fun _ => true) true t v d p) : ∃ y z : Int, v = .agg #[.int .i64 y, .int .i64 z] := by
  obtain ⟨zs, rfl, hl, _⟩ := ints_arg ht he hc hct hok h
  match zs, hl with
  | [y, z], _ => exact ⟨y, z, rfl⟩
theorem i3_arg {H : Type} {enc : TypeId × Value → H} {P : Program} {W : World} {base : Nat} {t e : TypeId} {v : Value} {d : DataW H} {p : List MemPlace} (ht : P.underlying t = some (.array 3 e)) (he : P.underlying e = some (.int .i64)) (hc : P.cellsOf e = 1) (hct : P.cellsOf t = 3)
    (hok : Value.okWide P W .any base t v) (h : DataW.Trod enc P W 0 (fun _ => true) true t v d p) : ∃ x y z : Int, v = .agg #[.int .i64 x, .int .i64 y, .int .i64 z] ∧ ((Lit.int .i64 x).wf = true ∧ (Lit.int .i64 y).wf = true) ∧ (Lit.int .i64 z).wf = true := by
  obtain ⟨zs, rfl, hl, hw⟩ := ints_arg ht he hc hct hok h
  match zs, hl with
  | [x, y, z], _ => exact ⟨x, y, z, rfl, ⟨hw x (by simp), hw y (by simp)⟩, hw z (by simp)⟩
end Go.Proofs.YtlgkliafocbogaaDoor
