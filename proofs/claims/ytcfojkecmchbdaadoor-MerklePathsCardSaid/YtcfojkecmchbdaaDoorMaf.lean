/- Slices written out: of bytes, of slices of bytes, of nodes. -/
import Derived.Test.YtcfojkecmchbdaaDoorMnj
import Derived.Great.BuildSlice
namespace Go.Lin
theorem list16 {l : List Nat} (h : l.length = 16) : ∃ a0 a1 a2 a3 a4 a5 a6 a7 a8 a9 a10 a11 a12 a13 a14 a15, l = [a0, a1, a2, a3, a4, a5, a6, a7, a8, a9, a10, a11, a12, a13, a14, a15] := by
  match l, h with
  | [a0, a1, a2, a3, a4, a5, a6, a7, a8, a9, a10, a11, a12, a13, a14, a15], _ => exact ⟨_, _, _, _, _, _, _, _, _, _, _, _, _, _, _, _, rfl⟩
end Go.Lin
namespace Go.Proofs.YtcfojkecmchbdaaDoor
open Go Go.RowKit Go.Bul Go.Thg Go.Lin
theorem info_bytes : (Tryd.prog.info? 22).map (fun i => (i.zero, i.size, i.bytes)) = some (some (.slice none 0 0), 1, 24) := by kernel_rfl
set_option maxRecDepth 20000
theorem run_lbb1 (b0 : Int) (w : World) : (Instr.buildSlice 22 1 #[(0, .int .u8 b0)]).run Tryd.prog w = .ok (.slice (some ⟨w.heap.size, 0, none⟩) 1 1) (w.alloc (.cells #[.int .u8 b0] 5)) := by
  have h := info_byte
  cases hq : Tryd.prog.info? 5 with
  | none => rw [hq] at h; simp at h
  | some i =>
    rw [hq] at h
    simp only [Option.map_some, Option.some.injEq, Prod.mk.injEq] at h
    refine run_buildSlice w _ _ 1 _ _ i _ Tryd.underlying22 hq h.1 (by rw [h.2.1]; decide) (by rw [h.2.1]; decide) ?_
    rw [h.2.1]
    have hz : Array.map (fun x => (Value.int IntKind.u8 0).cells[x % (Value.int IntKind.u8 0).cells.size]!) (Array.range (1 * 1)) = #[Value.int IntKind.u8 0] := by kernel_rfl
    rw [hz]
    simp [Instr.fill, Value.cells]
theorem run_lbb2 (b0 b1 : Int) (w : World) : (Instr.buildSlice 22 2 #[(0, .int .u8 b0), (1, .int .u8 b1)]).run Tryd.prog w = .ok (.slice (some ⟨w.heap.size, 0, none⟩) 2 2) (w.alloc (.cells #[.int .u8 b0, .int .u8 b1] 5)) := by
  have h := info_byte
  cases hq : Tryd.prog.info? 5 with
  | none => rw [hq] at h; simp at h
  | some i =>
    rw [hq] at h
    simp only [Option.map_some, Option.some.injEq, Prod.mk.injEq] at h
    refine run_buildSlice w _ _ 2 _ _ i _ Tryd.underlying22 hq h.1 (by rw [h.2.1]; decide) (by rw [h.2.1]; decide) ?_
    rw [h.2.1]
    have hz : Array.map (fun x => (Value.int IntKind.u8 0).cells[x % (Value.int IntKind.u8 0).cells.size]!) (Array.range (2 * 1)) = #[Value.int IntKind.u8 0, Value.int IntKind.u8 0] := by kernel_rfl
    rw [hz]
    simp [Instr.fill, Value.cells]
theorem run_lbb5 (b0 b1 b2 b3 b4 : Int) (w : World) : (Instr.buildSlice 22 5 #[(0, .int .u8 b0), (1, .int .u8 b1), (2, .int .u8 b2), (3, .int .u8 b3), (4, .int .u8 b4)]).run Tryd.prog w = .ok (.slice (some ⟨w.heap.size, 0, none⟩) 5 5) (w.alloc (.cells #[.int .u8 b0, .int .u8 b1, .int .u8 b2, .int .u8 b3, .int .u8 b4] 5)) := by
  have h := info_byte
  cases hq : Tryd.prog.info? 5 with
  | none => rw [hq] at h; simp at h
  | some i =>
    rw [hq] at h
    simp only [Option.map_some, Option.some.injEq, Prod.mk.injEq] at h
    refine run_buildSlice w _ _ 5 _ _ i _ Tryd.underlying22 hq h.1 (by rw [h.2.1]; decide) (by rw [h.2.1]; decide) ?_
    rw [h.2.1]
    have hz : Array.map (fun x => (Value.int IntKind.u8 0).cells[x % (Value.int IntKind.u8 0).cells.size]!) (Array.range (5 * 1)) = #[Value.int IntKind.u8 0, Value.int IntKind.u8 0, Value.int IntKind.u8 0, Value.int IntKind.u8 0, Value.int IntKind.u8 0] := by kernel_rfl
    rw [hz]
    simp [Instr.fill, Value.cells]
theorem run_lbs2 (A0 A1 : Option Addr) (n0 c0 n1 c1 : Nat) (w : World) : (Instr.buildSlice 101 2 #[(0, .slice A0 n0 c0), (1, .slice A1 n1 c1)]).run Tryd.prog w = .ok (.slice (some ⟨w.heap.size, 0, none⟩) 2 2) (w.alloc (.cells #[.slice A0 n0 c0, .slice A1 n1 c1] 22)) := by
  have h := info_bytes
  cases hq : Tryd.prog.info? 22 with
  | none => rw [hq] at h; simp at h
  | some i =>
    rw [hq] at h
    simp only [Option.map_some, Option.some.injEq, Prod.mk.injEq] at h
    refine run_buildSlice w _ _ 2 _ _ i _ Tryd.underlying101 hq h.1 (by rw [h.2.1]; decide) (by rw [h.2.1]; decide) ?_
    rw [h.2.1]
    have hz : Array.map (fun x => (Value.slice none 0 0).cells[x % (Value.slice none 0 0).cells.size]!) (Array.range (2 * 1)) = #[Value.slice none 0 0, Value.slice none 0 0] := by kernel_rfl
    rw [hz]
    simp [Instr.fill, Value.cells]
theorem run_lbs3 (A0 A1 A2 : Option Addr) (n0 c0 n1 c1 n2 c2 : Nat) (w : World) : (Instr.buildSlice 101 3 #[(0, .slice A0 n0 c0), (1, .slice A1 n1 c1), (2, .slice A2 n2 c2)]).run Tryd.prog w = .ok (.slice (some ⟨w.heap.size, 0, none⟩) 3 3) (w.alloc (.cells #[.slice A0 n0 c0, .slice A1 n1 c1, .slice A2 n2 c2] 22)) := by
  have h := info_bytes
  cases hq : Tryd.prog.info? 22 with
  | none => rw [hq] at h; simp at h
  | some i =>
    rw [hq] at h
    simp only [Option.map_some, Option.some.injEq, Prod.mk.injEq] at h
    refine run_buildSlice w _ _ 3 _ _ i _ Tryd.underlying101 hq h.1 (by rw [h.2.1]; decide) (by rw [h.2.1]; decide) ?_
    rw [h.2.1]
    have hz : Array.map (fun x => (Value.slice none 0 0).cells[x % (Value.slice none 0 0).cells.size]!) (Array.range (3 * 1)) = #[Value.slice none 0 0, Value.slice none 0 0, Value.slice none 0 0] := by kernel_rfl
    rw [hz]
    simp [Instr.fill, Value.cells]
theorem run_lbn1 (y0 : Nd) (w : World) : (Instr.buildSlice 37 1 #[(0, .agg (ndC y0))]).run Tryd.prog w = .ok (.slice (some ⟨w.heap.size, 0, none⟩) 1 1) (w.alloc (.cells (ndC y0) 27)) := by
  have h := info_nd
  cases hq : Tryd.prog.info? 27 with
  | none => rw [hq] at h; simp at h
  | some i =>
    rw [hq] at h
    simp only [Option.map_some, Option.some.injEq, Prod.mk.injEq] at h
    refine run_buildSlice w _ _ 1 _ _ i _ Tryd.underlying37 hq h.1 (by rw [h.2.1]; decide) (by rw [h.2.1]; decide) ?_
    rw [h.2.1]
    have hz : Array.map (fun x => (Value.agg (ndC nd0)).cells[x % (Value.agg (ndC nd0)).cells.size]!) (Array.range (1 * 16)) = #[Value.int IntKind.u8 0, Value.int IntKind.u8 0, Value.int IntKind.u8 0, Value.int IntKind.u8 0, Value.int IntKind.u8 0, Value.int IntKind.u8 0, Value.int IntKind.u8 0, Value.int IntKind.u8 0, Value.int IntKind.u8 0, Value.int IntKind.u8 0, Value.int IntKind.u8 0, Value.int IntKind.u8 0, Value.int IntKind.u8 0, Value.int IntKind.u8 0, Value.int IntKind.u8 0, Value.int IntKind.u8 0] := by kernel_rfl
    rw [hz]
    obtain ⟨l0, hl0, _⟩ := y0
    obtain ⟨p0_0, p0_1, p0_2, p0_3, p0_4, p0_5, p0_6, p0_7, p0_8, p0_9, p0_10, p0_11, p0_12, p0_13, p0_14, p0_15, rfl⟩ := list16 hl0
    simp [Instr.fill, Value.cells, ndC, cellsOf, vals]
theorem run_lbn2 (y0 y1 : Nd) (w : World) : (Instr.buildSlice 37 2 #[(0, .agg (ndC y0)), (1, .agg (ndC y1))]).run Tryd.prog w = .ok (.slice (some ⟨w.heap.size, 0, none⟩) 2 2) (w.alloc (.cells (ndC2 y0 y1) 27)) := by
  have h := info_nd
  cases hq : Tryd.prog.info? 27 with
  | none => rw [hq] at h; simp at h
  | some i =>
    rw [hq] at h
    simp only [Option.map_some, Option.some.injEq, Prod.mk.injEq] at h
    refine run_buildSlice w _ _ 2 _ _ i _ Tryd.underlying37 hq h.1 (by rw [h.2.1]; decide) (by rw [h.2.1]; decide) ?_
    rw [h.2.1]
    have hz : Array.map (fun x => (Value.agg (ndC nd0)).cells[x % (Value.agg (ndC nd0)).cells.size]!) (Array.range (2 * 16)) = #[Value.int IntKind.u8 0, Value.int IntKind.u8 0, Value.int IntKind.u8 0, Value.int IntKind.u8 0, Value.int IntKind.u8 0, Value.int IntKind.u8 0, Value.int IntKind.u8 0, Value.int IntKind.u8 0, Value.int IntKind.u8 0, Value.int IntKind.u8 0, Value.int IntKind.u8 0, Value.int IntKind.u8 0, Value.int IntKind.u8 0, Value.int IntKind.u8 0, Value.int IntKind.u8 0, Value.int IntKind.u8 0, Value.int IntKind.u8 0, Value.int IntKind.u8 0, Value.int IntKind.u8 0, Value.int IntKind.u8 0, Value.int IntKind.u8 0, Value.int IntKind.u8 0, Value.int IntKind.u8 0, Value.int IntKind.u8 0, Value.int IntKind.u8 0, Value.int IntKind.u8 0, Value.int IntKind.u8 0, Value.int IntKind.u8 0, Value.int IntKind.u8 0, Value.int IntKind.u8 0, Value.int IntKind.u8 0, Value.int IntKind.u8 0] := by kernel_rfl
    rw [hz]
    obtain ⟨l0, hl0, _⟩ := y0
    obtain ⟨p0_0, p0_1, p0_2, p0_3, p0_4, p0_5, p0_6, p0_7, p0_8, p0_9, p0_10, p0_11, p0_12, p0_13, p0_14, p0_15, rfl⟩ := list16 hl0
    obtain ⟨l1, hl1, _⟩ := y1
    obtain ⟨p1_0, p1_1, p1_2, p1_3, p1_4, p1_5, p1_6, p1_7, p1_8, p1_9, p1_10, p1_11, p1_12, p1_13, p1_14, p1_15, rfl⟩ := list16 hl1
    simp [Instr.fill, Value.cells, ndC, ndC2, cellsOf, vals]
section
variable {w w0 : World} {G : List Nat} {L : List Ent} {R : List Thing} {ops : Array Oper} {rest : List Oper} {o : Oper} {a : Act} {Q : Exit → Act → World → Prop} {x0 x1 x2 x3 x4 : Operand}
theorem lbb1 {b0 : Int} (hM : Mem G w0 L R w) (h : ∀ g w', Mem G w0 (⟨g, 5, 1, #[.int .u8 b0]⟩ :: L) R w' → wpList Tryd.prog ops Q rest (a.put o.dst (.slice (some ⟨g, 0, none⟩) 1 1)) w')
    (hgd : o.guard = none := by rfl) (ho : o.op = .buildSlice 22 1 #[(0, x0)] := by rfl) (hx0 : a.eval x0 = .int .u8 b0 := by rfl) : wpList Tryd.prog ops Q (o :: rest) a w := by
  refine wpList_plain hgd fun K hK => ?_
  unfold Oper.wp execOp
  simp only [ho, List.map_toArray, List.map_cons, List.map_nil, hx0, Sem.run_bind, run_lbb1, Result.andThen_ok]
  exact hK _ _ (h _ _ (hM.alloc _ _ (by first | rfl | exact ndC_size _ | exact ndC2_size _ _)))
theorem lbb2 {b0 b1 : Int} (hM : Mem G w0 L R w) (h : ∀ g w', Mem G w0 (⟨g, 5, 2, #[.int .u8 b0, .int .u8 b1]⟩ :: L) R w' → wpList Tryd.prog ops Q rest (a.put o.dst (.slice (some ⟨g, 0, none⟩) 2 2)) w')
    (hgd : o.guard = none := by rfl) (ho : o.op = .buildSlice 22 2 #[(0, x0), (1, x1)] := by rfl) (hx0 : a.eval x0 = .int .u8 b0 := by rfl) (hx1 : a.eval x1 = .int .u8 b1 := by rfl) : wpList Tryd.prog ops Q (o :: rest) a w := by
  refine wpList_plain hgd fun K hK => ?_
  unfold Oper.wp execOp
  simp only [ho, List.map_toArray, List.map_cons, List.map_nil, hx0, hx1, Sem.run_bind, run_lbb2, Result.andThen_ok]
  exact hK _ _ (h _ _ (hM.alloc _ _ (by first | rfl | exact ndC_size _ | exact ndC2_size _ _)))
theorem lbb5 {b0 b1 b2 b3 b4 : Int} (hM : Mem G w0 L R w) (h : ∀ g w', Mem G w0 (⟨g, 5, 5, #[.int .u8 b0, .int .u8 b1, .int .u8 b2, .int .u8 b3, .int .u8 b4]⟩ :: L) R w' → wpList Tryd.prog ops Q rest (a.put o.dst (.slice (some ⟨g, 0, none⟩) 5 5)) w')
    (hgd : o.guard = none := by rfl) (ho : o.op = .buildSlice 22 5 #[(0, x0), (1, x1), (2, x2), (3, x3), (4, x4)] := by rfl) (hx0 : a.eval x0 = .int .u8 b0 := by rfl) (hx1 : a.eval x1 = .int .u8 b1 := by rfl) (hx2 : a.eval x2 = .int .u8 b2 := by rfl) (hx3 : a.eval x3 = .int .u8 b3 := by rfl) (hx4 : a.eval x4 = .int .u8 b4 := by rfl) : wpList Tryd.prog ops Q (o :: rest) a w := by
  refine wpList_plain hgd fun K hK => ?_
  unfold Oper.wp execOp
  simp only [ho, List.map_toArray, List.map_cons, List.map_nil, hx0, hx1, hx2, hx3, hx4, Sem.run_bind, run_lbb5, Result.andThen_ok]
  exact hK _ _ (h _ _ (hM.alloc _ _ (by first | rfl | exact ndC_size _ | exact ndC2_size _ _)))
theorem lbs2 {A0 A1 : Option Addr} {n0 c0 n1 c1 : Nat} (hM : Mem G w0 L R w) (h : ∀ g w', Mem G w0 (⟨g, 22, 2, #[.slice A0 n0 c0, .slice A1 n1 c1]⟩ :: L) R w' → wpList Tryd.prog ops Q rest (a.put o.dst (.slice (some ⟨g, 0, none⟩) 2 2)) w')
    (hgd : o.guard = none := by rfl) (ho : o.op = .buildSlice 101 2 #[(0, x0), (1, x1)] := by rfl) (hx0 : a.eval x0 = .slice A0 n0 c0 := by rfl) (hx1 : a.eval x1 = .slice A1 n1 c1 := by rfl) : wpList Tryd.prog ops Q (o :: rest) a w := by
  refine wpList_plain hgd fun K hK => ?_
  unfold Oper.wp execOp
  simp only [ho, List.map_toArray, List.map_cons, List.map_nil, hx0, hx1, Sem.run_bind, run_lbs2, Result.andThen_ok]
  exact hK _ _ (h _ _ (hM.alloc _ _ (by first | rfl | exact ndC_size _ | exact ndC2_size _ _)))
theorem lbs3 {A0 A1 A2 : Option Addr} {n0 c0 n1 c1 n2 c2 : Nat} (hM : Mem G w0 L R w) (h : ∀ g w', Mem G w0 (⟨g, 22, 3, #[.slice A0 n0 c0, .slice A1 n1 c1, .slice A2 n2 c2]⟩ :: L) R w' → wpList Tryd.prog ops Q rest (a.put o.dst (.slice (some ⟨g, 0, none⟩) 3 3)) w')
    (hgd : o.guard = none := by rfl) (ho : o.op = .buildSlice 101 3 #[(0, x0), (1, x1), (2, x2)] := by rfl) (hx0 : a.eval x0 = .slice A0 n0 c0 := by rfl) (hx1 : a.eval x1 = .slice A1 n1 c1 := by rfl) (hx2 : a.eval x2 = .slice A2 n2 c2 := by rfl) : wpList Tryd.prog ops Q (o :: rest) a w := by
  refine wpList_plain hgd fun K hK => ?_
  unfold Oper.wp execOp
  simp only [ho, List.map_toArray, List.map_cons, List.map_nil, hx0, hx1, hx2, Sem.run_bind, run_lbs3, Result.andThen_ok]
  exact hK _ _ (h _ _ (hM.alloc _ _ (by first | rfl | exact ndC_size _ | exact ndC2_size _ _)))
theorem lbn1 {y0 : Nd} (hM : Mem G w0 L R w) (h : ∀ g w', Mem G w0 (⟨g, 27, 16, (ndC y0)⟩ :: L) R w' → wpList Tryd.prog ops Q rest (a.put o.dst (.slice (some ⟨g, 0, none⟩) 1 1)) w')
    (hgd : o.guard = none := by rfl) (ho : o.op = .buildSlice 37 1 #[(0, x0)] := by rfl) (hx0 : a.eval x0 = .agg (ndC y0) := by rfl) : wpList Tryd.prog ops Q (o :: rest) a w := by
  refine wpList_plain hgd fun K hK => ?_
  unfold Oper.wp execOp
  simp only [ho, List.map_toArray, List.map_cons, List.map_nil, hx0, Sem.run_bind, run_lbn1, Result.andThen_ok]
  exact hK _ _ (h _ _ (hM.alloc _ _ (by first | rfl | exact ndC_size _ | exact ndC2_size _ _)))
theorem lbn2 {y0 y1 : Nd} (hM : Mem G w0 L R w) (h : ∀ g w', Mem G w0 (⟨g, 27, 32, (ndC2 y0 y1)⟩ :: L) R w' → wpList Tryd.prog ops Q rest (a.put o.dst (.slice (some ⟨g, 0, none⟩) 2 2)) w')
    (hgd : o.guard = none := by rfl) (ho : o.op = .buildSlice 37 2 #[(0, x0), (1, x1)] := by rfl) (hx0 : a.eval x0 = .agg (ndC y0) := by rfl) (hx1 : a.eval x1 = .agg (ndC y1) := by rfl) : wpList Tryd.prog ops Q (o :: rest) a w := by
  refine wpList_plain hgd fun K hK => ?_
  unfold Oper.wp execOp
  simp only [ho, List.map_toArray, List.map_cons, List.map_nil, hx0, hx1, Sem.run_bind, run_lbn2, Result.andThen_ok]
  exact hK _ _ (h _ _ (hM.alloc _ _ (by first | rfl | exact ndC_size _ | exact ndC2_size _ _)))
/-- What a block reads as. -/
theorem reads_ent {g n : Nat} {t : TypeId} {cs : Array Value} (hM : Mem G w0 L R w) (hL : ⟨g, t, n, cs⟩ ∈ L) : Reads w 1 (some ⟨g, 0, none⟩) n cs.toList := by
  have hB := hM.blk hL
  refine ⟨by rw [Array.length_toList, hM.size hL, Nat.mul_one], fun _ => ⟨g, 0, rfl, hB.lt, fun j u hu => (hB.cell _).trans ?_⟩⟩
  rw [Nat.zero_add]
  simpa using hu
end
end Go.Proofs.YtcfojkecmchbdaaDoor
