/- MerkleNodes: what came in. Rows of nodes that came in. -/
import Derived.Test.YtcfojkecmchbdaaDoorMaq
import Derived.Test.YtcfojkecmchbdaaDoorFrmc
import Derived.Test.YtcfojkecmchbdaaDoorMng
namespace Go.Proofs.YtcfojkecmchbdaaDoor
open Go Go.RowKit Go.Bul Go.Thg Go.Lin
theorem cell_none {w : World} {g off : Nat} {sp : Option Nat} {v : Value} (h : w.cell? ⟨g, off, sp⟩ = some v) : sp = none := by
  cases sp with
  | none => rfl
  | some s =>
    unfold World.cell? at h
    split at h
    · simp at h
    · cases h
theorem rd_reads {w : World} {ok : Nat → Prop} {A : Option Addr} {n : Nat} {bs : List Nat} (h : Rd w ok A n bs) : Reads w 1 A n (vals .u8 bs) := by
  refine ⟨by rw [vals_length, h.len, Nat.mul_one], fun h0 => ?_⟩
  obtain ⟨⟨g, off, sp⟩, rfl, _, hlt, hc⟩ := h.at_ h0
  have h1 := hc 0 h0
  have e0 : (⟨g, off, sp⟩ : Addr).add 0 = ⟨g, off, sp⟩ := by simp [Addr.add]
  rw [e0] at h1
  obtain rfl := cell_none h1
  refine ⟨g, off, rfl, hlt, fun j u hu => ?_⟩
  have hj : j < bs.length := by
    have := (List.getElem?_eq_some_iff.1 hu).1
    simpa using this
  have h2 := hc j (by have := h.len; omega)
  rw [addr_at] at h2
  rw [h2]
  simp only [vals, List.getElem?_map, List.getElem?_eq_getElem hj, Option.map_some] at hu
  rw [List.getD_eq_getElem?_getD, List.getElem?_eq_getElem hj]
  exact hu
theorem nodes_row (z : Int) (A : Option Addr) (n c : Nat) (bs zs : List Nat) (w : World) (hr : Rd w (fun _ => True) A n bs) (hn : n ≤ c) (hc : c ≤ 9223372036854775807) (hl : zs.length = 2 * 16) (hb : Bytes zs) (hT : Tab w) :
    Calls Tryd.prog 3 #[.int .i64 z, .slice A n c, .agg (cellsOf .u8 zs)] w fun e w' => e = .returned (.bool true) ∧ Below w.heap.size w w' := by
  have e : cellsOf .u8 zs = ndC2 ⟨zs.take 16, by rw [List.length_take]; omega, hb.take _⟩ ⟨zs.drop 16, by rw [List.length_drop]; omega, fun x hx => hb x (List.mem_of_mem_drop hx)⟩ := by
    simp [ndC2]
  rw [e]
  exact nodes_any z A n c bs _ _ w (rd_reads hr) hr.bytes (by omega) hT
end Go.Proofs.YtcfojkecmchbdaaDoor
namespace Go.Lin
open Go Go.Bul
theorem chunks : ∀ (n : Nat) (bs : List Nat), bs.length = n * 16 → Bytes bs → ∃ l : List Nd, l.length = n ∧ ndCells l = vals .u8 bs
  | 0, bs, h, _ => by
    have : bs = [] := List.eq_nil_of_length_eq_zero (by omega)
    subst this
    exact ⟨[], rfl, rfl⟩
  | n + 1, bs, h, hb => by
    obtain ⟨l, h1, h2⟩ := chunks n (bs.drop 16) (by rw [List.length_drop]; omega) (fun x hx => hb x (List.mem_of_mem_drop hx))
    refine ⟨⟨bs.take 16, by rw [List.length_take]; omega, hb.take _⟩ :: l, by simp [h1], ?_⟩
    have e : ndCells (⟨bs.take 16, by rw [List.length_take]; omega, hb.take _⟩ :: l) = vals .u8 (bs.take 16) ++ ndCells l := by simp [ndCells]
    rw [e, h2]
    simp only [vals, ← List.map_append, List.take_append_drop]
end Go.Lin
namespace Go.Proofs.YtcfojkecmchbdaaDoor
open Go Go.RowKit Go.Bul Go.Thg Go.Lin
theorem nin_of {w : World} {A : Option Addr} {n : Nat} {bs : List Nat} (h : RdArr w A n 16 bs) : ∃ l : List Nd, NIn w A n l := by
  obtain ⟨l, h1, h2⟩ := chunks n bs h.len h.bytes
  refine ⟨l, ?_⟩
  unfold NIn
  rw [h2]
  refine ⟨by rw [vals_length, h.len], fun h0 => ?_⟩
  obtain ⟨⟨g, off, sp⟩, rfl, hlt, hc⟩ := h.at_ h0
  have h3 := hc 0 (by omega)
  have e0 : (⟨g, off, sp⟩ : Addr).add 0 = ⟨g, off, sp⟩ := by simp [Addr.add]
  rw [e0] at h3
  obtain rfl := cell_none h3
  refine ⟨g, off, rfl, hlt, fun j u hu => ?_⟩
  have hj : j < bs.length := by
    have := (List.getElem?_eq_some_iff.1 hu).1
    simpa using this
  have h4 := hc j (by have := h.len; omega)
  rw [addr_at] at h4
  rw [h4]
  simp only [vals, List.getElem?_map, List.getElem?_eq_getElem hj, Option.map_some] at hu
  rw [List.getD_eq_getElem?_getD, List.getElem?_eq_getElem hj]
  exact hu
theorem mroot_row (A : Option Addr) (n c : Nat) (bs : List Nat) (idx : Int) (w : World) (hr : RdArr w A n 16 bs) (hn : n ≤ c) (hc : c ≤ 9223372036854775807) (hT : Tab w) :
    Calls Tryd.prog 4 #[.slice A n c, .int .i64 idx] w fun e w' => e = .returned (.bool true) ∧ Below w.heap.size w w' := by
  obtain ⟨l, hl⟩ := nin_of hr
  exact mroot_any A n c l idx w hl (by omega) hT
end Go.Proofs.YtcfojkecmchbdaaDoor
