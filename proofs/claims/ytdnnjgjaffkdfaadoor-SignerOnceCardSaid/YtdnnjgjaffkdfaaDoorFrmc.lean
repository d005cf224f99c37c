/- Openings of more kinds of arguments: arrays of integers, arrays of arrays of bytes, slices of arrays of bytes. -/
import Derived.Test.YtdnnjgjaffkdfaaDoorFrmb
import Derived.Deep.Slices
namespace Go.Proofs.YtdnnjgjaffkdfaaDoor
open Go Go.RowKit Go.WideShapes Go.ChangeShapes Go.ChangeAt Go.Bul
section
variable {H : Type} {enc : TypeId × Value → H} {P : Program}
/-- The parts of an array that reads. -/
theorem arr_parts {W : World} {base n k fuel : Nat} {sp : Nat → Bool} {held : Bool} {t e : TypeId} {cs : List Value} {x : DataW H × List MemPlace} (ht : P.underlying t = some (.array n e)) (hk : P.cellsOf e = k)
    (hf : DataW.trod enc P W base sp held fuel t cs = some x) : cs.length = P.cellsOf t ∧ ∃ m, ∀ i, i < n → ∃ y, DataW.trod enc P W base sp held m e ((cs.drop (i * k)).take k) = some y := by
  cases fuel with
  | zero => simp [DataW.trod] at hf
  | succ m =>
    rw [DataW.trod_step] at hf
    unfold DataW.trodStep at hf
    rw [ht] at hf
    simp only [hk, Option.ite_none_right_eq_some, Option.map_eq_some_iff] at hf
    obtain ⟨hl, xs, hm, _⟩ := hf
    exact ⟨hl, m, fun i hi => mapM_some hm i (List.mem_range.2 hi)⟩
/-- The cells of an array of integers that reads. -/
theorem arr_ints {W : World} {base n fuel : Nat} {sp : Nat → Bool} {held : Bool} {t e : TypeId} {q : IntKind} {cs : List Value} {x : DataW H × List MemPlace} (ht : P.underlying t = some (.array n e)) (he : P.underlying e = some (.int q)) (hc : P.cellsOf e = 1) (hct : P.cellsOf t = n)
    (hf : DataW.trod enc P W base sp held fuel t cs = some x) : ∃ zs : List Int, cs = zs.map (Value.int q) ∧ zs.length = n ∧ ∀ z ∈ zs, (Lit.int q z).wf = true := by
  obtain ⟨hl, m, hp⟩ := arr_parts ht hc hf
  rw [hct] at hl
  have hcells : ∀ i, i < n → ∃ z, cs[i]? = some (.int q z) ∧ (Lit.int q z).wf = true := fun i hi => by
    obtain ⟨y, hy⟩ := hp i hi
    obtain ⟨z, hz, _, hw⟩ := DataW.trod_int he hy
    refine ⟨z, ?_, hw⟩
    have := congrArg (·[0]?) hz
    simpa [List.getElem?_take] using this
  refine ⟨cs.map fun v => match v with | .int _ z => z | _ => 0, ?_, by simp [hl], fun z hz => ?_⟩
  · refine List.ext_getElem (by simp) (fun i h1 h2 => ?_)
    obtain ⟨z, hz, _⟩ := hcells i (by omega)
    rw [List.getElem?_eq_getElem h1, Option.some.injEq] at hz
    simp [hz]
  · simp only [List.mem_map] at hz
    obtain ⟨u, hu, rfl⟩ := hz
    obtain ⟨i, hi, rfl⟩ := List.mem_iff_getElem.1 hu
    obtain ⟨z, hz, hw⟩ := hcells i (by omega)
    rw [List.getElem?_eq_getElem hi, Option.some.injEq] at hz
    simp [hz, hw]
theorem wf_byte {z : Int} (h : (Lit.int .u8 z).wf = true) : 0 ≤ z ∧ z < 256 := by
  have h1 := (Go.Lit.wf_int_iff .u8 z).1 h
  have e1 : IntKind.u8.min = 0 := rfl
  have e2 : IntKind.u8.max = 255 := rfl
  omega
/-- A slice of arrays of k bytes reads as these bytes. -/
structure RdArr (w : World) (A : Option Addr) (n k : Nat) (bs : List Nat) : Prop where
  len : bs.length = n * k
  bytes : Bytes bs
  at_ : 0 < n → ∃ ad, A = some ad ∧ ad.block < w.heap.size ∧ ∀ j, j < n * k → w.cell? (ad.add j) = some (.int .u8 (bs.getD j 0 : Nat))
/-- An integer that came in. -/
theorem int_arg {W : World} {base : Nat} {t : TypeId} {q : IntKind} {v : Value} {d : DataW H} {p : List MemPlace} (ht : P.underlying t = some (.int q))
    (hok : Value.okWide P W .any base t v) (h : DataW.Trod enc P W 0 (fun _ => true) true t v d p) : ∃ z : Int, v = .int q z ∧ (Lit.int q z).wf = true := by
  obtain ⟨n, rfl, _, _, hw⟩ := open_int ht hok h
  exact ⟨n, rfl, hw⟩
end
end Go.Proofs.YtdnnjgjaffkdfaaDoor
