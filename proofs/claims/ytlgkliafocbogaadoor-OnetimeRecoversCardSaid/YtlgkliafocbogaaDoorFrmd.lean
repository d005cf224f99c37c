/- An array of words without sign that came in. -/
import Derived.Test.YtlgkliafocbogaaDoorFrmc
import Derived.Test.YtlgkliafocbogaaDoorHeap
namespace Go.Proofs.YtlgkliafocbogaaDoor
open Go Go.RowKit Go.WideShapes Go.ChangeShapes Go.ChangeAt Go.Bul
theorem nat_arg {H : Type} {enc : TypeId × Value → H} {P : Program} {W : World} {base n : Nat} {t e : TypeId} {q : IntKind} {v : Value} {d : DataW H} {p : List MemPlace} (ht : P.underlying t = some (.array n e)) (he : P.underlying e = some (.int q)) (hc : P.cellsOf e = 1) (hct : P.cellsOf t = n) (hq : q.min = 0)
    (hok : Value.okWide P W .any base t v) (h : DataW.Trod enc P W 0 (fun _ => true) true t v d p) : ∃ zs : List Nat, v = .agg (cellsOf q zs) ∧ zs.length = n ∧ ∀ i, nth zs i < (q.max + 1).toNat := by
  obtain ⟨zs, rfl, hl, hw⟩ := ints_arg ht he hc hct hok h
  have hr : ∀ z ∈ zs, 0 ≤ z ∧ z ≤ q.max := fun z hz => by
    have := (Go.Lit.wf_int_iff q z).1 (hw z hz)
    rw [hq] at this
    exact this
  have hmax : 0 ≤ q.max := by
    cases zs with
    | nil => cases q <;> decide
    | cons z zs => have := hr z (by simp); omega
  refine ⟨zs.map Int.toNat, ?_, by simp [hl], fun i => ?_⟩
  · congr 1
    apply Array.ext'
    simp only [cellsOf, vals, List.map_map]
    refine List.map_congr_left fun z hz => ?_
    have := hr z hz
    simp only [Function.comp]
    congr 1
    omega
  · unfold nth
    rw [List.getD_eq_getElem?_getD]
    rcases Nat.lt_or_ge i zs.length with h1 | h1
    · rw [List.getElem?_eq_getElem (by simpa using h1)]
      have := hr zs[i] (List.getElem_mem h1)
      simp only [List.getElem_map, Option.getD_some]
      omega
    · rw [List.getElem?_eq_none (by simpa using h1)]
      simp only [Option.getD_none]
      omega
end Go.Proofs.YtlgkliafocbogaaDoor
