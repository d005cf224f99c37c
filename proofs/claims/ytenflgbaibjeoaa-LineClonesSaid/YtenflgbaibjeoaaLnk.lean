/- What is under way: opened, closed, made longer, made shorter. -/
import Derived.Test.YtenflgbaibjeoaaLnj
namespace Go.Proofs.Ytenflgbaibjeoaa
open Go Go.RowKit Go.Bul Go.Thg Go.Lin
section
variable {G : List Nat} {w0 w w' : World} {L : List Ent} {R : List Thing} {fp : List Nat} {v : Value} {way : List (List Nat × Int)} {pvs : List Value}
/-- The row of packets. -/
def pkT (v : Value) (pvs : List Value) (way : List (List Nat × Int)) : Thing := rowT 99 2 v way.length (pktCells pvs way)
theorem way_open (h : Mem G w0 L (wayT fp v way :: R) w) : ∃ pvs : List Value, pvs.length = way.length ∧ Mem G w0 L (pkT v pvs way :: (pktRows pvs way ++ R)) w := by
  obtain ⟨pvs, h1, _, h2⟩ := h.unpack
  exact ⟨pvs, h1, h2⟩
theorem way_close (h : Mem G w0 L (pkT v pvs way :: (pktRows pvs way ++ R)) w) (hl : pvs.length = way.length) : ∃ fp, Mem G w0 L (wayT fp v way :: R) w :=
  ⟨_, Mem.pack (f := wayF v way) (ok := fun pvs => pvs.length = way.length) pvs h hl⟩
theorem pktCells_snoc (hl : pvs.length = way.length) (pv : Value) (bs : List Nat) (m : Int) : pktCells (pvs ++ [pv]) (way ++ [(bs, m)]) = pktCells pvs way ++ [pv, .int .i64 m] := by
  unfold pktCells
  rw [List.zip_append hl, List.flatMap_append]
  rfl
theorem pktRows_snoc (hl : pvs.length = way.length) (pv : Value) (bs : List Nat) (m : Int) : pktRows (pvs ++ [pv]) (way ++ [(bs, m)]) = pktRows pvs way ++ [bT pv bs] := by
  unfold pktRows
  rw [List.zip_append hl, List.map_append]
  rfl
theorem pktCells_length (hl : pvs.length = way.length) : (pktCells pvs way).length = way.length * 2 := by
  have : ∀ l : List (Value × (List Nat × Int)), (l.flatMap fun x => [x.1, Value.int .i64 x.2.2]).length = l.length * 2 := by
    intro l
    induction l with
    | nil => rfl
    | cons a l ih => simp only [List.flatMap_cons, List.length_append, List.length_cons, List.length_nil, ih]; omega
  unfold pktCells
  rw [this, List.length_zip]
  omega
theorem way_nil (A : Option Addr) (w : World) : (wayT [] (.slice A 0 0) []).P w :=
  ⟨[], rfl, by simp [wayF, foot, pktRows, rowT, sFp_zero], ⟨by simp [wayF], by
    intro r hr
    simp only [wayF, pktRows, List.zip_nil_left, List.map_nil, List.mem_cons, List.not_mem_nil, or_false] at hr
    subst hr
    exact OffRow.empty w _ _ A, by simp [wayF, foot, pktRows, rowT, sFp_zero]⟩⟩
/-- The packets' slices are slices. -/
theorem pvs_slice (h : Mem G w0 L (pkT v pvs way :: (pktRows pvs way ++ R)) w) (hl : pvs.length = way.length) : ∀ u ∈ pktCells pvs way, u.oneCell' = true := by
  intro u hu
  obtain ⟨⟨pv, bs, m⟩, hx, hu⟩ := List.mem_flatMap.1 hu
  simp only [List.mem_cons, List.not_mem_nil, or_false] at hu
  rcases hu with rfl | rfl
  · obtain ⟨A, c, rfl, _⟩ := bT_form (h.thing (bT u bs) (List.mem_cons_of_mem _ (List.mem_append_left _ (List.mem_map.2 ⟨_, hx, rfl⟩))))
    rfl
  · rfl
end
end Go.Proofs.Ytenflgbaibjeoaa
