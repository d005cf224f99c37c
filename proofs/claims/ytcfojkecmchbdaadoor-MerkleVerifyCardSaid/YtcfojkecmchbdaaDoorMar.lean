/- MerkleNodes: what came in. -/
import Derived.Test.YtcfojkecmchbdaaDoorMaq
namespace Go.Proofs.YtcfojkecmchbdaaDoor
open Go Go.RowKit Go.Bul Go.Thg Go.Lin
theorem cell_none {w : World} {g off : Nat} {sp : Option Nat} {v : Value} (h : w.cell? ⟨g, off, sp⟩ = some v) : sp = none := by
  cases sp with
  | none => rfl
  | some s =>
    unfold World.cell? at h
    split at h
    · simp at h
    · cases h
theorem rd_reads {w : World} {ok : Nat → Prop} {A : Option Addr} {n : Nat} {bs : List Nat} (h : Rd w ok A n bs) : Reads w 1 A n (vals .u8 bs) := by
  refine ⟨by rw [vals_length, h.len, Nat.mul_one], fun h0 => ?_⟩
  obtain ⟨⟨g, off, sp⟩, rfl, _, hlt, hc⟩ := h.at_ h0
  have h1 := hc 0 h0
  have e0 : (⟨g, off, sp⟩ : Addr).add 0 = ⟨g, off, sp⟩ := by simp [Addr.add]
  rw [e0] at h1
  obtain rfl := cell_none h1
  refine ⟨g, off, rfl, hlt, fun j u hu => ?_⟩
  have hj : j < bs.length := by
    have := (List.getElem?_eq_some_iff.1 hu).1
    simpa using this
  have h2 := hc j (by have := h.len; omega)
  rw [addr_at] at h2
  rw [h2]
  simp only [vals, List.getElem?_map, List.getElem?_eq_getElem hj, Option.map_some] at hu
  rw [List.getD_eq_getElem?_getD, List.getElem?_eq_getElem hj]
  exact hu
theorem nodes_row (z : Int) (A : Option Addr) (n c : Nat) (bs zs : List Nat) (w : World) (hr : Rd w (fun _ => True) A n bs) (hn : n ≤ c) (hc : c ≤ 9223372036854775807) (hl : zs.length = 2 * 16) (hb : Bytes zs) (hT : Tab w) :
    Calls Tryd.prog 3 #[.int .i64 z, .slice A n c, .agg (cellsOf .u8 zs)] w fun e w' => e = .returned (.bool true) ∧ Below w.heap.size w w' := by
  have e : cellsOf .u8 zs = ndC2 ⟨zs.take 16, by rw [List.length_take]; omega, hb.take _⟩ ⟨zs.drop 16, by rw [List.length_drop]; omega, fun x hx => hb x (List.mem_of_mem_drop hx)⟩ := by
    simp [ndC2]
  rw [e]
  exact nodes_any z A n c bs _ _ w (rd_reads hr) hr.bytes (by omega) hT
end Go.Proofs.YtcfojkecmchbdaaDoor
