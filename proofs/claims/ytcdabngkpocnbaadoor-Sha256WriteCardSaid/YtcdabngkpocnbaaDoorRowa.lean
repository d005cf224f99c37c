/- A slice of slices of bytes that came in. -/
import Derived.Test.YtcdabngkpocnbaaDoorWrw
import Derived.Test.YtcdabngkpocnbaaDoorFram2
import Derived.Deep.Matrix
namespace Go.Proofs.YtcdabngkpocnbaaDoor
open Go Go.RowKit Go.WideShapes Go.ChangeShapes Go.ChangeAt Go.Bul
theorem cells_sl : Tryd.prog.cellsOf 22 = 1 := by kernel_rfl
theorem rows_arg {H : Type} {enc : TypeId × Value → H} {W : World} {base : Nat} {v : Value} {d : DataW H} {p : List MemPlace} (hok : Value.okWide Tryd.prog W .any base 40 v)
    (h : DataW.Trod enc Tryd.prog W 0 (fun _ => true) true 40 v d p) : ∃ A n c, v = .slice A n c ∧ n ≤ c ∧ c ≤ 9223372036854775807 ∧ RdRows W A n := by
  obtain ⟨a0, len, cap, rfl⟩ := okWide_slice Tryd.underlying40 hok
  obtain ⟨fuel, hf⟩ := h
  rcases Go.Deep.open_int_rows Tryd.underlying40 Tryd.underlying22 Tryd.underlying5 cells_sl cells_u8 hf with ⟨hcs, _⟩ | ⟨a, len', cap', A, L, C, Z, hcs, _, hl, hm, _, hx⟩
  · simp [Value.cells] at hcs
    obtain ⟨rfl, rfl, rfl⟩ := hcs
    exact ⟨none, 0, 0, rfl, Nat.le_refl _, by omega, ⟨fun h => absurd h (by omega)⟩⟩
  · simp [Value.cells] at hcs
    obtain ⟨rfl, rfl, rfl⟩ := hcs
    refine ⟨some a, len, cap, rfl, hl, by unfold maxLen at hm; omega, ⟨fun h0 => ⟨a, rfl, ?_, fun j hj => ?_⟩⟩⟩
    · have := lt_of_cell (hx 0 (by omega)).1
      rwa [block_of_add] at this
    · obtain ⟨hc, hLC, hC, hZ, hwf, hnone, hsome⟩ := hx j (by omega)
      refine ⟨A j, L j, C j, ((Z j).take (L j)).map Int.toNat, hc, hLC, by unfold maxLen at hC; omega, ?_⟩
      have hr : ∀ n ∈ Z j, 0 ≤ n ∧ n < 256 := fun n hn => by
        have h1 := (Go.Lit.wf_int_iff .u8 n).1 (hwf n hn)
        have e1 : IntKind.u8.min = 0 := rfl
        have e2 : IntKind.u8.max = 255 := rfl
        omega
      refine ⟨by simp; omega, fun x hx => ?_, fun h0 => ?_⟩
      · simp only [List.mem_map] at hx
        obtain ⟨y, hy, rfl⟩ := hx
        have := hr y (List.mem_of_mem_take hy)
        omega
      · cases hA : A j with
        | none => have := hnone hA; omega
        | some a' =>
          obtain ⟨_, hcell⟩ := hsome a' hA
          have hlt : a'.block < W.heap.size := by
            have := lt_of_cell (hcell 0 (by omega))
            rwa [block_of_add] at this
          refine ⟨a', rfl, hlt, hlt, fun i hi => ?_⟩
          · rw [hcell i (by omega)]
            have hj2 : i < (Z j).length := by omega
            have := hr (Z j)[i] (List.getElem_mem hj2)
            simp [List.getD, List.getElem?_eq_getElem hj2, hi]
            omega
end Go.Proofs.YtcdabngkpocnbaaDoor
