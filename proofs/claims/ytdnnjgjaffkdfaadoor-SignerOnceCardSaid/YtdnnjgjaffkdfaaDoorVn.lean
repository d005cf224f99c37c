/- Contract of slices.Concat at slices of bytes. Slices written out: of bytes, of slices of bytes, of nodes. Contracts of merkle.Leaf, Join. Contract of merkle.Join. Rows of nodes, of rows; slices.Clone at nodes; levels of a tree. -/
import Derived.Test.YtdnnjgjaffkdfaaDoorVm
import Derived.Great.BuildSlice
import Derived.Test.YtdnnjgjaffkdfaaDoorVg
import Derived.Test.YtdnnjgjaffkdfaaDoorVa
import Derived.Deep.CutRange
import Derived.Deep.CutBlock
namespace Go.Lin
open Go
/-- Pieces, as values and as bytes. -/
abbrev Pcs := List (Value × List Nat)
def total (ps : Pcs) : Nat := (ps.map fun p => p.2.length).sum
def flatP (ps : Pcs) : List Nat := ps.flatMap fun p => p.2
theorem flatP_length (ps : Pcs) : (flatP ps).length = total ps := by simp [flatP, total, List.length_flatMap]
theorem total_take (ps : Pcs) {k : Nat} (h : k < ps.length) : total (ps.take (k + 1)) = total (ps.take k) + ps[k].2.length := by
  unfold total
  rw [List.take_succ_eq_append_getElem h, List.map_append, List.sum_append]
  simp only [List.map_cons, List.map_nil, List.sum_cons, List.sum_nil, Nat.add_zero]
theorem flatP_take (ps : Pcs) {k : Nat} (h : k < ps.length) : flatP (ps.take (k + 1)) = flatP (ps.take k) ++ ps[k].2 := by
  unfold flatP
  rw [List.take_succ_eq_append_getElem h, List.flatMap_append]
  simp only [List.flatMap_cons, List.flatMap_nil, List.append_nil]
theorem total_le (ps : Pcs) (k : Nat) : total (ps.take k) ≤ total ps := by
  have h : ps = ps.take k ++ ps.drop k := (List.take_append_drop k ps).symm
  have h2 : total ps = total (ps.take k) + total (ps.drop k) := by
    conv => lhs; rw [h]
    unfold total
    rw [List.map_append, List.sum_append]
  omega
end Go.Lin
namespace Go.Proofs.YtdnnjgjaffkdfaaDoor
open Go Go.RowKit Go.Bul Go.Thg Go.Lin
/-- A slice of slices of bytes. -/
structure CIn (w : World) (A : Option Addr) (k : Nat) (ps : Pcs) : Prop where
  out : Reads w 1 A k (ps.map fun p => p.1)
  each : ∀ p ∈ ps, ∃ A' c', p.1 = .slice A' p.2.length c' ∧ Reads w 1 A' p.2.length (vals .u8 p.2)
theorem CIn.keep {w w' : World} {A : Option Addr} {k : Nat} {ps : Pcs} (h : CIn w A k ps) (hb : Below w.heap.size w w') : CIn w' A k ps :=
  ⟨h.out.keep hb, fun p hp => by
    obtain ⟨A', c', h1, h2⟩ := h.each p hp
    exact ⟨A', c', h1, h2.keep hb⟩⟩
set_option maxRecDepth 20000 in
set_option maxHeartbeats 4000000 in
theorem concat_any {w : World} {A : Option Addr} {k c : Nat} {ps : Pcs} (h : CIn w A k ps) (hs : total ps ≤ 1000000) (hk : k ≤ 1000) :
    Calls Tryd.prog 77 #[.slice A k c] w fun e w' => ∃ A' c', e = .returned (.slice A' (flatP ps).length c') ∧ Becomes [] w (bT (.slice A' (flatP ps).length c') (flatP ps)) w' := by
  have hM := Mem.start [] w
  have H := Lib.hid h
  have hl : k = ps.length := by have := h.out.1; simp at this; omega
  have HL := Lib.hid hl
  have HS := Lib.hid hs
  have HG := Lib.hid (fun w => grow_nil (total ps) w (by omega))
  clear h hl hs
  go_enter Tryd.func77, Tryd.ntmps77
  go_wp2_with fail
  go_loopw [11, 3] (fun i u wr => ∃ j : Nat, j ≤ k ∧ i = .int .i64 (j : Nat) ∧ u = .int .i64 (total (ps.take j) : Nat) ∧ Mem [] w [] [] wr) (fun i _ _ => k - (intOf i).toNat)
  case atStart => exact ⟨0, by omega, rfl, rfl, hM⟩
  case round =>
    clear hM
    obtain ⟨j, hj, rfl, rfl, hM⟩ := hrel
    by_cases hlt : j < k
    · have hjl : j < ps.length := by have := HL.out; omega
      have q0 : (0 : Int) ≤ (j : Int) := Int.natCast_nonneg _
      have q1 : (j : Int) < (k : Int) := by omega
      obtain ⟨g, off, rfl, hgl, hc⟩ := H.out.out.2 (by omega)
      have hcj := hc j ps[j].1 (by rw [List.getElem?_map, List.getElem?_eq_getElem hjl]; rfl)
      obtain ⟨A', c', hv, _⟩ := H.out.each _ (List.getElem_mem hjl)
      rw [hv] at hcj
      have ht := total_take ps hjl
      have hle := total_le ps (j + 1)
      obtain ⟨m, hm⟩ : ∃ m, total (ps.take j) = m := ⟨_, rfl⟩
      obtain ⟨n, hn⟩ : ∃ n, ps[j].2.length = n := ⟨_, rfl⟩
      rw [hm] at ht ⊢
      rw [hn] at ht hcj
      have hmn : m + n ≤ 1000000 := by have := HS.out; omega
      have HC := Lib.hid (fun w' (hb : Below w.heap.size w w') => (hb.cell (p := ⟨g, off + j, none⟩) hgl).trans hcj)
      have HT := Lib.hid ht
      have m0 : (0 : Int) ≤ (m : Int) := Int.natCast_nonneg _
      have n0 : (0 : Int) ≤ (n : Int) := Int.natCast_nonneg _
      have c1 : decide ((m : Int) + (n : Int) < 0) = false := decide_eq_false (by omega)
      have w1 : IntKind.i64.wrap ((m : Int) + (n : Int)) = (m : Int) + (n : Int) := IntWalk.i64_in _ ⟨by omega, by omega⟩
      clear hc hcj hv ht hle hm hn
      go_wp2_with (first | ((with_reducible refine at_load ?_); refine lo (HC.out _ hM.below) ?_))
      exact ⟨⟨j + 1, by omega, by go_num, by rw [HT.out]; go_num, hM⟩, by simp [intOf]; omega⟩
    · obtain rfl : j = k := by omega
      have ht : total (ps.take j) = total ps := by rw [HL.out, List.take_length]
      rw [ht]
      clear hlt hj ht
      have n0 : (0 : Int) ≤ (total ps : Int) := Int.natCast_nonneg _
      go_wp2_with (first | ((with_reducible refine (HG.out _).mono ?_); rintro e w1 ⟨gA, gc, rfl, hb⟩; replace hM := hM.newThing hb; clear hb))
      have M0 := Lib.hid hM
      clear hM
      go_loopw [27, 6] (fun i u wr => ∃ (k2 : Nat) (B : Option Addr) (d : Nat), k2 ≤ j ∧ i = .int .i64 (k2 : Nat) ∧ u = .slice B (flatP (ps.take k2)).length d ∧ Mem [] w [] [bT (.slice B (flatP (ps.take k2)).length d) (flatP (ps.take k2))] wr) (fun i _ _ => j - (intOf i).toNat)
      case atStart => exact ⟨0, gA, gc, by omega, rfl, rfl, M0.out⟩
      case round =>
        clear M0
        obtain ⟨k2, B, d, hk2, rfl, rfl, hM⟩ := hrel
        by_cases hlt : k2 < j
        · have hjl : k2 < ps.length := by have := HL.out; omega
          have q0 : (0 : Int) ≤ (k2 : Int) := Int.natCast_nonneg _
          have q1 : (k2 : Int) < (j : Int) := by omega
          obtain ⟨g, off, rfl, hgl, hc⟩ := H.out.out.2 (by omega)
          have hcj := hc k2 ps[k2].1 (by rw [List.getElem?_map, List.getElem?_eq_getElem hjl]; rfl)
          obtain ⟨A', c', hv, hr⟩ := H.out.each _ (List.getElem_mem hjl)
          rw [hv] at hcj
          have hf := flatP_take ps hjl
          have hle := total_le ps (k2 + 1)
          rw [← flatP_length, hf] at hle
          obtain ⟨xs, hxs⟩ : ∃ xs, flatP (ps.take k2) = xs := ⟨_, rfl⟩
          obtain ⟨ys, hys⟩ : ∃ ys, ps[k2].2 = ys := ⟨_, rfl⟩
          rw [hxs] at hf hle hM ⊢
          rw [hys] at hf hle hcj hr
          have h63 : xs.length + ys.length ≤ 1000000000 := by have := HS.out; simp at hle; omega
          have HC := Lib.hid (fun w' (hb : Below w.heap.size w w') => (hb.cell (p := ⟨g, off + k2, none⟩) hgl).trans hcj)
          have HR := Lib.hid (fun w' (hb : Below w.heap.size w w') => (hr.keep hb).src (c := c') (P := Tryd.prog) (tx := 78) Tryd.underlying78 (vals_one _ _))
          have HF := Lib.hid hf
          clear hc hcj hv hr hf hle hxs hys
          go_wp2_with (first | ((with_reducible refine at_load ?_); refine lo (HC.out _ hM.below) ?_) | ((with_reducible refine at_append ?_); refine la (HR.out _ hM.below) hM h63 ?_; clear hM; intro A2 N2 c2 wx hN hM))
          obtain rfl : N2 = (xs ++ ys).length := hN.out
          exact ⟨⟨k2 + 1, A2, c2, by omega, by go_num, by rw [HF.out], by rw [HF.out]; exact hM⟩, by simp [intOf]; omega⟩
        · obtain rfl : k2 = j := by omega
          have ht : ps.take k2 = ps := by rw [HL.out, List.take_length]
          rw [ht] at hM ⊢
          clear hlt hk2 ht
          go_wp2_with fail
          go_ret
          exact ⟨B, d, rfl, hM.becomes (List.Mem.head _)⟩
end Go.Proofs.YtdnnjgjaffkdfaaDoor
namespace Go.Lin
theorem list16 {l : List Nat} (h : l.length = 16) : ∃ a0 a1 a2 a3 a4 a5 a6 a7 a8 a9 a10 a11 a12 a13 a14 a15, l = [a0, a1, a2, a3, a4, a5, a6, a7, a8, a9, a10, a11, a12, a13, a14, a15] := by
  match l, h with
  | [a0, a1, a2, a3, a4, a5, a6, a7, a8, a9, a10, a11, a12, a13, a14, a15], _ => exact ⟨_, _, _, _, _, _, _, _, _, _, _, _, _, _, _, _, rfl⟩
end Go.Lin
namespace Go.Proofs.YtdnnjgjaffkdfaaDoor
open Go Go.RowKit Go.Bul Go.Thg Go.Lin
theorem info_bytes : (Tryd.prog.info? 78).map (fun i => (i.zero, i.size, i.bytes)) = some (some (.slice none 0 0), 1, 24) := by kernel_rfl
set_option maxRecDepth 20000
theorem run_lbb1 (b0 : Int) (w : World) : (Instr.buildSlice 78 1 #[(0, .int .u8 b0)]).run Tryd.prog w = .ok (.slice (some ⟨w.heap.size, 0, none⟩) 1 1) (w.alloc (.cells #[.int .u8 b0] 5)) := by
  have h := info_byte
  cases hq : Tryd.prog.info? 5 with
  | none => rw [hq] at h; simp at h
  | some i =>
    rw [hq] at h
    simp only [Option.map_some, Option.some.injEq, Prod.mk.injEq] at h
    refine run_buildSlice w _ _ 1 _ _ i _ Tryd.underlying78 hq h.1 (by rw [h.2.1]; decide) (by rw [h.2.1]; decide) ?_
    rw [h.2.1]
    have hz : Array.map (fun x => (Value.int IntKind.u8 0).cells[x % (Value.int IntKind.u8 0).cells.size]!) (Array.range (1 * 1)) = #[Value.int IntKind.u8 0] := by kernel_rfl
    rw [hz]
    simp [Instr.fill, Value.cells]
theorem run_lbb2 (b0 b1 : Int) (w : World) : (Instr.buildSlice 78 2 #[(0, .int .u8 b0), (1, .int .u8 b1)]).run Tryd.prog w = .ok (.slice (some ⟨w.heap.size, 0, none⟩) 2 2) (w.alloc (.cells #[.int .u8 b0, .int .u8 b1] 5)) := by
  have h := info_byte
  cases hq : Tryd.prog.info? 5 with
  | none => rw [hq] at h; simp at h
  | some i =>
    rw [hq] at h
    simp only [Option.map_some, Option.some.injEq, Prod.mk.injEq] at h
    refine run_buildSlice w _ _ 2 _ _ i _ Tryd.underlying78 hq h.1 (by rw [h.2.1]; decide) (by rw [h.2.1]; decide) ?_
    rw [h.2.1]
    have hz : Array.map (fun x => (Value.int IntKind.u8 0).cells[x % (Value.int IntKind.u8 0).cells.size]!) (Array.range (2 * 1)) = #[Value.int IntKind.u8 0, Value.int IntKind.u8 0] := by kernel_rfl
    rw [hz]
    simp [Instr.fill, Value.cells]
theorem run_lbb5 (b0 b1 b2 b3 b4 : Int) (w : World) : (Instr.buildSlice 78 5 #[(0, .int .u8 b0), (1, .int .u8 b1), (2, .int .u8 b2), (3, .int .u8 b3), (4, .int .u8 b4)]).run Tryd.prog w = .ok (.slice (some ⟨w.heap.size, 0, none⟩) 5 5) (w.alloc (.cells #[.int .u8 b0, .int .u8 b1, .int .u8 b2, .int .u8 b3, .int .u8 b4] 5)) := by
  have h := info_byte
  cases hq : Tryd.prog.info? 5 with
  | none => rw [hq] at h; simp at h
  | some i =>
    rw [hq] at h
    simp only [Option.map_some, Option.some.injEq, Prod.mk.injEq] at h
    refine run_buildSlice w _ _ 5 _ _ i _ Tryd.underlying78 hq h.1 (by rw [h.2.1]; decide) (by rw [h.2.1]; decide) ?_
    rw [h.2.1]
    have hz : Array.map (fun x => (Value.int IntKind.u8 0).cells[x % (Value.int IntKind.u8 0).cells.size]!) (Array.range (5 * 1)) = #[Value.int IntKind.u8 0, Value.int IntKind.u8 0, Value.int IntKind.u8 0, Value.int IntKind.u8 0, Value.int IntKind.u8 0] := by kernel_rfl
    rw [hz]
    simp [Instr.fill, Value.cells]
theorem run_lbs2 (A0 A1 : Option Addr) (n0 c0 n1 c1 : Nat) (w : World) : (Instr.buildSlice 164 2 #[(0, .slice A0 n0 c0), (1, .slice A1 n1 c1)]).run Tryd.prog w = .ok (.slice (some ⟨w.heap.size, 0, none⟩) 2 2) (w.alloc (.cells #[.slice A0 n0 c0, .slice A1 n1 c1] 78)) := by
  have h := info_bytes
  cases hq : Tryd.prog.info? 78 with
  | none => rw [hq] at h; simp at h
  | some i =>
    rw [hq] at h
    simp only [Option.map_some, Option.some.injEq, Prod.mk.injEq] at h
    refine run_buildSlice w _ _ 2 _ _ i _ Tryd.underlying164 hq h.1 (by rw [h.2.1]; decide) (by rw [h.2.1]; decide) ?_
    rw [h.2.1]
    have hz : Array.map (fun x => (Value.slice none 0 0).cells[x % (Value.slice none 0 0).cells.size]!) (Array.range (2 * 1)) = #[Value.slice none 0 0, Value.slice none 0 0] := by kernel_rfl
    rw [hz]
    simp [Instr.fill, Value.cells]
theorem run_lbs3 (A0 A1 A2 : Option Addr) (n0 c0 n1 c1 n2 c2 : Nat) (w : World) : (Instr.buildSlice 164 3 #[(0, .slice A0 n0 c0), (1, .slice A1 n1 c1), (2, .slice A2 n2 c2)]).run Tryd.prog w = .ok (.slice (some ⟨w.heap.size, 0, none⟩) 3 3) (w.alloc (.cells #[.slice A0 n0 c0, .slice A1 n1 c1, .slice A2 n2 c2] 78)) := by
  have h := info_bytes
  cases hq : Tryd.prog.info? 78 with
  | none => rw [hq] at h; simp at h
  | some i =>
    rw [hq] at h
    simp only [Option.map_some, Option.some.injEq, Prod.mk.injEq] at h
    refine run_buildSlice w _ _ 3 _ _ i _ Tryd.underlying164 hq h.1 (by rw [h.2.1]; decide) (by rw [h.2.1]; decide) ?_
    rw [h.2.1]
    have hz : Array.map (fun x => (Value.slice none 0 0).cells[x % (Value.slice none 0 0).cells.size]!) (Array.range (3 * 1)) = #[Value.slice none 0 0, Value.slice none 0 0, Value.slice none 0 0] := by kernel_rfl
    rw [hz]
    simp [Instr.fill, Value.cells]
theorem run_lbn1 (y0 : Nd) (w : World) : (Instr.buildSlice 93 1 #[(0, .agg (ndC y0))]).run Tryd.prog w = .ok (.slice (some ⟨w.heap.size, 0, none⟩) 1 1) (w.alloc (.cells (ndC y0) 89)) := by
  have h := info_nd
  cases hq : Tryd.prog.info? 89 with
  | none => rw [hq] at h; simp at h
  | some i =>
    rw [hq] at h
    simp only [Option.map_some, Option.some.injEq, Prod.mk.injEq] at h
    refine run_buildSlice w _ _ 1 _ _ i _ Tryd.underlying93 hq h.1 (by rw [h.2.1]; decide) (by rw [h.2.1]; decide) ?_
    rw [h.2.1]
    have hz : Array.map (fun x => (Value.agg (ndC nd0)).cells[x % (Value.agg (ndC nd0)).cells.size]!) (Array.range (1 * 16)) = #[Value.int IntKind.u8 0, Value.int IntKind.u8 0, Value.int IntKind.u8 0, Value.int IntKind.u8 0, Value.int IntKind.u8 0, Value.int IntKind.u8 0, Value.int IntKind.u8 0, Value.int IntKind.u8 0, Value.int IntKind.u8 0, Value.int IntKind.u8 0, Value.int IntKind.u8 0, Value.int IntKind.u8 0, Value.int IntKind.u8 0, Value.int IntKind.u8 0, Value.int IntKind.u8 0, Value.int IntKind.u8 0] := by kernel_rfl
    rw [hz]
    obtain ⟨l0, hl0, _⟩ := y0
    obtain ⟨p0_0, p0_1, p0_2, p0_3, p0_4, p0_5, p0_6, p0_7, p0_8, p0_9, p0_10, p0_11, p0_12, p0_13, p0_14, p0_15, rfl⟩ := list16 hl0
    simp [Instr.fill, Value.cells, ndC, cellsOf, vals]
section
variable {w w0 : World} {G : List Nat} {L : List Ent} {R : List Thing} {ops : Array Oper} {rest : List Oper} {o : Oper} {a : Act} {Q : Exit → Act → World → Prop} {x0 x1 x2 x3 x4 : Operand}
theorem lbb1 {b0 : Int} (hM : Mem G w0 L R w) (h : ∀ g w', Mem G w0 (⟨g, 5, 1, #[.int .u8 b0]⟩ :: L) R w' → wpList Tryd.prog ops Q rest (a.put o.dst (.slice (some ⟨g, 0, none⟩) 1 1)) w')
    (hgd : o.guard = none := by rfl) (ho : o.op = .buildSlice 78 1 #[(0, x0)] := by rfl) (hx0 : a.eval x0 = .int .u8 b0 := by rfl) : wpList Tryd.prog ops Q (o :: rest) a w := by
  refine wpList_plain hgd fun K hK => ?_
  unfold Oper.wp execOp
  simp only [ho, List.map_toArray, List.map_cons, List.map_nil, hx0, Sem.run_bind, run_lbb1, Result.andThen_ok]
  exact hK _ _ (h _ _ (hM.alloc _ _ (by first | rfl | exact ndC_size _ | exact ndC2_size _ _)))
theorem lbb2 {b0 b1 : Int} (hM : Mem G w0 L R w) (h : ∀ g w', Mem G w0 (⟨g, 5, 2, #[.int .u8 b0, .int .u8 b1]⟩ :: L) R w' → wpList Tryd.prog ops Q rest (a.put o.dst (.slice (some ⟨g, 0, none⟩) 2 2)) w')
    (hgd : o.guard = none := by rfl) (ho : o.op = .buildSlice 78 2 #[(0, x0), (1, x1)] := by rfl) (hx0 : a.eval x0 = .int .u8 b0 := by rfl) (hx1 : a.eval x1 = .int .u8 b1 := by rfl) : wpList Tryd.prog ops Q (o :: rest) a w := by
  refine wpList_plain hgd fun K hK => ?_
  unfold Oper.wp execOp
  simp only [ho, List.map_toArray, List.map_cons, List.map_nil, hx0, hx1, Sem.run_bind, run_lbb2, Result.andThen_ok]
  exact hK _ _ (h _ _ (hM.alloc _ _ (by first | rfl | exact ndC_size _ | exact ndC2_size _ _)))
theorem lbb5 {b0 b1 b2 b3 b4 : Int} (hM : Mem G w0 L R w) (h : ∀ g w', Mem G w0 (⟨g, 5, 5, #[.int .u8 b0, .int .u8 b1, .int .u8 b2, .int .u8 b3, .int .u8 b4]⟩ :: L) R w' → wpList Tryd.prog ops Q rest (a.put o.dst (.slice (some ⟨g, 0, none⟩) 5 5)) w')
    (hgd : o.guard = none := by rfl) (ho : o.op = .buildSlice 78 5 #[(0, x0), (1, x1), (2, x2), (3, x3), (4, x4)] := by rfl) (hx0 : a.eval x0 = .int .u8 b0 := by rfl) (hx1 : a.eval x1 = .int .u8 b1 := by rfl) (hx2 : a.eval x2 = .int .u8 b2 := by rfl) (hx3 : a.eval x3 = .int .u8 b3 := by rfl) (hx4 : a.eval x4 = .int .u8 b4 := by rfl) : wpList Tryd.prog ops Q (o :: rest) a w := by
  refine wpList_plain hgd fun K hK => ?_
  unfold Oper.wp execOp
  simp only [ho, List.map_toArray, List.map_cons, List.map_nil, hx0, hx1, hx2, hx3, hx4, Sem.run_bind, run_lbb5, Result.andThen_ok]
  exact hK _ _ (h _ _ (hM.alloc _ _ (by first | rfl | exact ndC_size _ | exact ndC2_size _ _)))
theorem lbs2 {A0 A1 : Option Addr} {n0 c0 n1 c1 : Nat} (hM : Mem G w0 L R w) (h : ∀ g w', Mem G w0 (⟨g, 78, 2, #[.slice A0 n0 c0, .slice A1 n1 c1]⟩ :: L) R w' → wpList Tryd.prog ops Q rest (a.put o.dst (.slice (some ⟨g, 0, none⟩) 2 2)) w')
    (hgd : o.guard = none := by rfl) (ho : o.op = .buildSlice 164 2 #[(0, x0), (1, x1)] := by rfl) (hx0 : a.eval x0 = .slice A0 n0 c0 := by rfl) (hx1 : a.eval x1 = .slice A1 n1 c1 := by rfl) : wpList Tryd.prog ops Q (o :: rest) a w := by
  refine wpList_plain hgd fun K hK => ?_
  unfold Oper.wp execOp
  simp only [ho, List.map_toArray, List.map_cons, List.map_nil, hx0, hx1, Sem.run_bind, run_lbs2, Result.andThen_ok]
  exact hK _ _ (h _ _ (hM.alloc _ _ (by first | rfl | exact ndC_size _ | exact ndC2_size _ _)))
theorem lbs3 {A0 A1 A2 : Option Addr} {n0 c0 n1 c1 n2 c2 : Nat} (hM : Mem G w0 L R w) (h : ∀ g w', Mem G w0 (⟨g, 78, 3, #[.slice A0 n0 c0, .slice A1 n1 c1, .slice A2 n2 c2]⟩ :: L) R w' → wpList Tryd.prog ops Q rest (a.put o.dst (.slice (some ⟨g, 0, none⟩) 3 3)) w')
    (hgd : o.guard = none := by rfl) (ho : o.op = .buildSlice 164 3 #[(0, x0), (1, x1), (2, x2)] := by rfl) (hx0 : a.eval x0 = .slice A0 n0 c0 := by rfl) (hx1 : a.eval x1 = .slice A1 n1 c1 := by rfl) (hx2 : a.eval x2 = .slice A2 n2 c2 := by rfl) : wpList Tryd.prog ops Q (o :: rest) a w := by
  refine wpList_plain hgd fun K hK => ?_
  unfold Oper.wp execOp
  simp only [ho, List.map_toArray, List.map_cons, List.map_nil, hx0, hx1, hx2, Sem.run_bind, run_lbs3, Result.andThen_ok]
  exact hK _ _ (h _ _ (hM.alloc _ _ (by first | rfl | exact ndC_size _ | exact ndC2_size _ _)))
theorem lbn1 {y0 : Nd} (hM : Mem G w0 L R w) (h : ∀ g w', Mem G w0 (⟨g, 89, 16, (ndC y0)⟩ :: L) R w' → wpList Tryd.prog ops Q rest (a.put o.dst (.slice (some ⟨g, 0, none⟩) 1 1)) w')
    (hgd : o.guard = none := by rfl) (ho : o.op = .buildSlice 93 1 #[(0, x0)] := by rfl) (hx0 : a.eval x0 = .agg (ndC y0) := by rfl) : wpList Tryd.prog ops Q (o :: rest) a w := by
  refine wpList_plain hgd fun K hK => ?_
  unfold Oper.wp execOp
  simp only [ho, List.map_toArray, List.map_cons, List.map_nil, hx0, Sem.run_bind, run_lbn1, Result.andThen_ok]
  exact hK _ _ (h _ _ (hM.alloc _ _ (by first | rfl | exact ndC_size _ | exact ndC2_size _ _)))
/-- What a block reads as. -/
theorem reads_ent {g n : Nat} {t : TypeId} {cs : Array Value} (hM : Mem G w0 L R w) (hL : ⟨g, t, n, cs⟩ ∈ L) : Reads w 1 (some ⟨g, 0, none⟩) n cs.toList := by
  have hB := hM.blk hL
  refine ⟨by rw [Array.length_toList, hM.size hL, Nat.mul_one], fun _ => ⟨g, 0, rfl, hB.lt, fun j u hu => (hB.cell _).trans ?_⟩⟩
  rw [Nat.zero_add]
  simpa using hu
end
end Go.Proofs.YtdnnjgjaffkdfaaDoor
namespace Go.Lin
open Go Go.Bul
/-- The bytes of a leaf, of a parent. -/
def headL (z : Int) : List Nat := [0, (z % 4294967296).toNat / 16777216, (z % 4294967296).toNat / 65536 % 256, (z % 4294967296).toNat / 256 % 256, (z % 4294967296).toNat % 256]
def leafL (z : Int) (bs : List Nat) : List Nat := headL z ++ bs
def joinL (z : Int) (a b : Nd) : List Nat := [1, (z % 256).toNat] ++ (a.val ++ b.val)
def leafN (z : Int) (bs : List Nat) : Nd := halfN (leafL z bs)
def joinN (z : Int) (a b : Nd) : Nd := halfN (joinL z a b)
theorem bytes_head (z : Int) : Bytes (headL z) := by
  intro x hx
  simp only [headL, List.mem_cons, List.not_mem_nil, or_false] at hx
  omega
theorem bytes_leaf {z : Int} {bs : List Nat} (h : Bytes bs) : Bytes (leafL z bs) := fun x hx => (List.mem_append.1 hx).elim (bytes_head z x) (h x)
theorem bytes_join (z : Int) (a b : Nd) : Bytes (joinL z a b) := by
  intro x hx
  rcases List.mem_append.1 hx with hx | hx
  · simp only [List.mem_cons, List.not_mem_nil, or_false] at hx
    omega
  · exact (List.mem_append.1 hx).elim (a.byt x) (b.byt x)
theorem joinL_length (z : Int) (a b : Nd) : (joinL z a b).length = 34 := by simp [joinL, a.len, b.len]
end Go.Lin
namespace Go.Proofs.YtdnnjgjaffkdfaaDoor
open Go Go.RowKit Go.Bul Go.Thg Go.Lin
theorem reads_rd {w : World} {A : Option Addr} {n : Nat} {bs : List Nat} (h : Reads w 1 A n (vals .u8 bs)) (hb : Bytes bs) : Rd w (fun _ => True) A n bs := by
  have hl : n = bs.length := by have := h.1; simp at this; omega
  refine ⟨hl.symm, hb, fun h0 => ?_⟩
  obtain ⟨g, off, rfl, hg, hc⟩ := h.2 h0
  refine ⟨_, rfl, trivial, hg, fun j hj => ?_⟩
  rw [addr_at]
  refine hc j _ ?_
  have hj' : j < bs.length := by omega
  rw [List.getD_eq_getElem?_getD, List.getElem?_eq_getElem hj']
  simp [vals, hj']
/-- SumHalf. -/
theorem half_c {w : World} {A : Option Addr} {n c : Nat} {bs : List Nat} (h : Reads w 1 A n (vals .u8 bs)) (hb : Bytes bs) (hnc : n ≤ c) (hl : n ≤ 1000000) (hT : Tab w) :
    Calls Tryd.prog 57 #[.slice A n c] w fun e w' => e = .returned (.agg (ndC (halfN bs))) ∧ Below w.heap.size w w' :=
  half_any bs A n c _ w (reads_rd h hb) hnc (by omega) hT
theorem wrap_u32 (z : Int) : IntKind.u32.wrap z = ((z % 4294967296).toNat : Int) := by
  have h : IntKind.u32.wrap z = z % 4294967296 := by simp [IntKind.wrap, IntKind.signed, IntKind.bits]
  rw [h]
  omega
theorem wrap_u8 (z : Int) : IntKind.u8.wrap z = ((z % 256).toNat : Int) := by
  have h : IntKind.u8.wrap z = z % 256 := by simp [IntKind.wrap, IntKind.signed, IntKind.bits]
  rw [h]
  omega
set_option maxRecDepth 20000 in
set_option maxHeartbeats 4000000 in
theorem leaf_any (z : Int) (A : Option Addr) (n c : Nat) (bs : List Nat) (w : World) (hr : Reads w 1 A n (vals .u8 bs)) (hb : Bytes bs) (hn : n ≤ 1000) (hT : Tab w) :
    Calls Tryd.prog 49 #[.int .i64 z, .slice A n c] w fun e w' => e = .returned (.agg (ndC (leafN z bs))) ∧ Below w.heap.size w w' := by
  have hM := Mem.start [] w
  have hN := wrap_u32 z
  have hl : n = bs.length := by have := hr.1; simp at this; omega
  have HH : Hid (leafN z bs = halfN (headL z ++ bs)) := Lib.hid rfl
  have HHB := Lib.hid (bytes_leaf (z := z) hb)
  have HHL : Hid (headL z = [0, (z % 4294967296).toNat / 16777216, (z % 4294967296).toNat / 65536 % 256, (z % 4294967296).toNat / 256 % 256, (z % 4294967296).toNat % 256]) := Lib.hid rfl
  have hN3 : (z % 4294967296).toNat < 4294967296 := by omega
  generalize (z % 4294967296).toNat = N at hN HHL hN3
  have n0 : (0 : Int) ≤ (N : Int) := Int.natCast_nonneg _
  have n1 : (N : Int) < 4294967296 := by omega
  have HR := Lib.hid hr
  have HT := Lib.hid hT
  have HLN := Lib.hid hl
  generalize leafN z bs = Z at HH ⊢
  clear hr hT hl hb
  go_enter Tryd.func49, Tryd.ntmps49
  go_wp2_with (first | (refine lbb5 hM ?_; clear hM; intro g5 w5 hM) | (refine lbs2 hM ?_; clear hM; intro g2 w2 hM) | ((first | with_reducible refine at_load ?_ | ((with_reducible refine at_load_g ?_ ?_); (· rfl))); first | refine lc hM ?_ | refine ll hM ?_ | refine lp hM ?_) | ((with_reducible refine at_store ?_); first | (refine ls hM ?_; clear hM; intro wx hM) | (refine lw hM ?_; clear hM; intro wx hM) | (refine lt hM ?_; clear hM; intro wx hM)) | ((with_reducible refine at_alloc ?_); refine lz hM ?_; clear hM; intro gx wx hM) | ((with_reducible refine at_box ?_); refine lb hM ?_; clear hM; intro gx wx hM))
  have hcin : CIn w2 (some ⟨g2, 0, none⟩) 2 [(.slice (some ⟨g5, 0, none⟩) 5 5, headL z), (.slice A n c, bs)] := by
    refine ⟨reads_ent hM (List.Mem.head _), fun p hp => ?_⟩
    simp only [List.mem_cons, List.not_mem_nil, or_false] at hp
    rcases hp with rfl | rfl
    · refine ⟨_, 5, rfl, ?_⟩
      rw [HHL.out]
      exact reads_ent hM (List.Mem.tail _ (List.Mem.head _))
    · exact ⟨A, c, by rw [HLN.out], by rw [← HLN.out]; exact HR.out.keep hM.below⟩
  refine (concat_any (c := 2) hcin (by have := HLN.out; simp [total, headL]; omega) (by decide)).mono ?_
  rintro e w3 ⟨cA, cc, rfl, hb⟩
  replace hM := hM.newThing hb
  clear hb hcin
  have hfl : flatP [(Value.slice (some ⟨g5, 0, none⟩) 5 5, headL z), (Value.slice A n c, bs)] = headL z ++ bs := by simp [flatP]
  obtain ⟨Y, hY⟩ : ∃ Y, headL z ++ bs = Y := ⟨_, rfl⟩
  have hYl : Y.length ≤ 1000000 := by rw [← hY]; have := HLN.out; simp [headL]; omega
  have HZ := Lib.hid (show Z = halfN Y by rw [HH.out, hY])
  have hYb : Bytes Y := by rw [← hY]; exact HHB.out
  rw [hfl, hY] at hM ⊢
  obtain ⟨hrd, _, hnc⟩ := bT_reads (hM.thing _ (List.Mem.head _))
  have HS := Lib.hid (half_c hrd hYb hnc hYl (HT.out.keep hM.below))
  clear hrd hnc hfl hY hYl hYb
  go_wp2_with (first | ((with_reducible refine HS.out.mono ?_); rintro e w4 ⟨rfl, hb⟩; replace hM := hM.step hb; clear hb) | ((first | with_reducible refine at_load ?_ | ((with_reducible refine at_load_g ?_ ?_); (· rfl))); first | refine lc hM ?_ | refine ll hM ?_ | refine lp hM ?_) | ((with_reducible refine at_store ?_); first | (refine ls hM ?_; clear hM; intro wx hM) | (refine lw hM ?_; clear hM; intro wx hM) | (refine lt hM ?_; clear hM; intro wx hM)) | ((with_reducible refine at_alloc ?_); refine lz hM ?_; clear hM; intro gx wx hM) | ((with_reducible refine at_box ?_); refine lb hM ?_; clear hM; intro gx wx hM))
  exact bodyPost_ret (results_mem_cell hM rfl (by rfl) (by repeat (first | exact List.Mem.head _ | apply List.Mem.tail)) (by first | exact row_nd | exact row_n | exact row_half | exact row_a32 | exact row_nd2 | exact row_n2 | exact row_two | exact row_claim | exact row_bld | exact row_bnds)) rfl ⟨by rw [HZ.out], hM.below⟩
end Go.Proofs.YtdnnjgjaffkdfaaDoor
namespace Go.Proofs.YtdnnjgjaffkdfaaDoor
open Go Go.RowKit Go.Bul Go.Thg Go.Lin
theorem cells_list (k : IntKind) (l : List Nat) : (cellsOf k l).toList = vals k l := by simp [cellsOf]
set_option maxRecDepth 20000 in
set_option maxHeartbeats 4000000 in
theorem join_any (z : Int) (a b : Nd) (w : World) (hT : Tab w) :
    Calls Tryd.prog 102 #[.int .i64 z, .agg (ndC a), .agg (ndC b)] w fun e w' => e = .returned (.agg (ndC (joinN z a b))) ∧ Below w.heap.size w w' := by
  have hM := Mem.start [] w
  have hN := wrap_u8 z
  have HH : Hid (joinN z a b = halfN ([1, (z % 256).toNat] ++ (a.val ++ b.val))) := Lib.hid rfl
  have HB : Hid (Bytes ([1, (z % 256).toNat] ++ (a.val ++ b.val))) := Lib.hid (bytes_join z a b)
  have HL : Hid (([1, (z % 256).toNat] ++ (a.val ++ b.val)).length = 34) := Lib.hid (joinL_length z a b)
  have hN3 : (z % 256).toNat < 256 := by omega
  generalize (z % 256).toNat = N at hN HH HB HL hN3
  have n0 : (0 : Int) ≤ (N : Int) := Int.natCast_nonneg _
  have n1 : (N : Int) < 256 := by omega
  have HT := Lib.hid hT
  generalize joinN z a b = Z at HH ⊢
  clear hT
  go_enter Tryd.func102, Tryd.ntmps102
  go_wp2_with (first | ((first | with_reducible refine at_load ?_ | ((with_reducible refine at_load_g ?_ ?_); (· rfl))); first | refine lc hM ?_ | refine ll hM ?_ | refine lp hM ?_) | ((with_reducible refine at_store ?_); first | (refine ls hM ?_; clear hM; intro wx hM) | (refine lw hM ?_; clear hM; intro wx hM) | (refine lt hM ?_; clear hM; intro wx hM)) | ((with_reducible refine at_alloc ?_); refine lz hM ?_; clear hM; intro gx wx hM) | ((with_reducible refine at_box ?_); refine lb hM ?_; clear hM; intro gx wx hM))
  obtain ⟨g5, hg5⟩ := (hM.subL (List.sublist_cons_self _ _)).name1
  obtain ⟨g4, hg4⟩ := (hM.subL (List.Sublist.cons _ (List.Sublist.cons _ (List.Sublist.refl _)))).name1
  subst hg5 hg4
  replace hM := hM.drew
  refine wp_region_all (by kernel_rfl) ?_
  refine wpAll_takes [0, 1, 3, 4] (by kernel_rfl) (fun _ _ _ _ _ h => h) (by kernel_rfl) ?_
  simp only [pickOps, List.filterMap_cons, List.filterMap_nil, List.getElem?_cons_zero, List.getElem?_cons_succ]
  repeat ((with_reducible apply wpPure_step); (· rfl); (· (intro w; go_simp; rfl)); intro K hK; go_simp; (with_reducible refine hK _ ?_); clear hK K)
  refine wpPure_nil ?_
  refine wpAll_one 2 rfl (by kernel_rfl) ?_
  refine lbb2 hM ?_
  clear hM
  intro g1 w1 hM
  refine wpList_then ?_
  go_simp
  refine wpAll_one 5 rfl (by kernel_rfl) ?_
  refine lbs3 hM ?_
  clear hM
  intro g2 w2 hM
  refine wpList_then ?_
  go_simp
  have hcin : CIn w2 (some ⟨g2, 0, none⟩) 3 [(.slice (some ⟨g1, 0, none⟩) 2 2, [1, N]), (.slice (some ⟨g4, 0, none⟩) 16 16, a.val), (.slice (some ⟨g5, 0, none⟩) 16 16, b.val)] := by
    refine ⟨reads_ent hM (List.Mem.head _), fun p hp => ?_⟩
    simp only [List.mem_cons, List.not_mem_nil, or_false] at hp
    rcases hp with rfl | rfl | rfl
    · exact ⟨_, 2, rfl, reads_ent hM (List.Mem.tail _ (List.Mem.head _))⟩
    · refine ⟨some ⟨g4, 0, none⟩, 16, by rw [a.len], ?_⟩
      have h := reads_ent hM (g := g4) (t := 89) (n := 16) (cs := ndC a) (by repeat (first | exact List.Mem.head _ | apply List.Mem.tail))
      rw [cells_list] at h
      rw [a.len]
      exact h
    · refine ⟨some ⟨g5, 0, none⟩, 16, by rw [b.len], ?_⟩
      have h := reads_ent hM (g := g5) (t := 89) (n := 16) (cs := ndC b) (by repeat (first | exact List.Mem.head _ | apply List.Mem.tail))
      rw [cells_list] at h
      rw [b.len]
      exact h
  refine wpAll_one 6 rfl (by kernel_rfl) ?_
  go_wp2_with fail
  refine (concat_any (c := 3) hcin (by simp [total, a.len, b.len]) (by decide)).mono ?_
  rintro e w3 ⟨cA, cc, rfl, hb⟩
  replace hM := hM.newThing hb
  clear hb hcin
  go_wp2_with fail
  refine then_normal ?_
  obtain ⟨Y, hY⟩ : ∃ Y, [1, N] ++ (a.val ++ b.val) = Y := ⟨_, rfl⟩
  have hfl : flatP [(Value.slice (some ⟨g1, 0, none⟩) 2 2, [1, N]), (Value.slice (some ⟨g4, 0, none⟩) 16 16, a.val), (Value.slice (some ⟨g5, 0, none⟩) 16 16, b.val)] = Y := by rw [← hY]; simp [flatP]
  have hYl : Y.length ≤ 1000000 := by rw [← hY, HL.out]; decide
  have HZ := Lib.hid (show Z = halfN Y by rw [HH.out, hY])
  have hYb : Bytes Y := by rw [← hY]; exact HB.out
  rw [hfl] at hM ⊢
  obtain ⟨hrd, _, hnc⟩ := bT_reads (hM.thing _ (List.Mem.head _))
  have HS := Lib.hid (half_c hrd hYb hnc hYl (HT.out.keep hM.below))
  clear hrd hnc hfl hY hYl hYb
  refine wpAll_one 7 rfl (by kernel_rfl) ?_
  go_wp2_with fail
  refine HS.out.mono ?_
  rintro e w4 ⟨rfl, hb⟩
  replace hM := hM.step hb
  clear hb
  go_wp2_with fail
  refine then_normal ?_
  refine wpAll_one 8 rfl (by kernel_rfl) ?_
  refine lw hM ?_
  clear hM
  intro w5 hM
  refine wpList_then (wpAll_done (by kernel_rfl) ?_)
  go_wp2_with fail
  exact bodyPost_ret (results_mem_cell hM rfl (by rfl) (by repeat (first | exact List.Mem.head _ | apply List.Mem.tail)) (by first | exact row_nd | exact row_n | exact row_half | exact row_a32 | exact row_nd2 | exact row_n2 | exact row_two | exact row_claim | exact row_bld | exact row_bnds)) rfl ⟨by rw [HZ.out], hM.below⟩
end Go.Proofs.YtdnnjgjaffkdfaaDoor
namespace Go.Lin
open Go Go.Bul
/-- Nodes, as cells. -/
def ndCells (l : List Nd) : List Value := l.flatMap fun x => vals .u8 x.val
theorem ndCells_length (l : List Nd) : (ndCells l).length = l.length * 16 := by
  induction l with
  | nil => rfl
  | cons x l ih => simp only [ndCells, List.flatMap_cons, List.length_append, List.length_cons, vals_length, x.len] at ih ⊢; omega
theorem ndCells_one (l : List Nd) : ∀ u ∈ ndCells l, u.oneCell' = true := by
  intro u hu
  obtain ⟨x, _, hx⟩ := List.mem_flatMap.1 hu
  exact vals_one _ _ u hx
theorem ndCells_app (a b : List Nd) : ndCells (a ++ b) = ndCells a ++ ndCells b := by simp [ndCells]
theorem ndCells_get : ∀ (l : List Nd) (i : Nat) (h : i < l.length) (j : Nat) (u : Value), (ndC l[i])[j]? = some u → (ndCells l)[i * 16 + j]? = some u
  | x :: l, 0, _, j, u, hu => by
    have hj : j < 16 := by rw [← ndC_size x]; exact (Array.getElem?_eq_some_iff.1 hu).1
    have e : ndCells (x :: l) = vals .u8 x.val ++ ndCells l := by simp [ndCells]
    have hj2 : j < (vals .u8 x.val).length := by rw [vals_length, x.len]; exact hj
    rw [e, Nat.zero_mul, Nat.zero_add, List.getElem?_append_left hj2]
    simpa [ndC, cellsOf] using hu
  | x :: l, i + 1, h, j, u, hu => by
    have e : ndCells (x :: l) = vals .u8 x.val ++ ndCells l := by simp [ndCells]
    have h16 : (vals .u8 x.val).length = 16 := by rw [vals_length, x.len]
    have hi : i < l.length := by simpa using h
    rw [e, List.getElem?_append_right (by rw [h16]; omega), h16, show (i + 1) * 16 + j - 16 = i * 16 + j by omega]
    exact ndCells_get l i hi j u hu
/-- The parents of a level. -/
def up (k : Nat) : List Nd → List Nd
  | a :: b :: l => joinN (k : Int) a b :: up k l
  | _ => []
theorem up_length (k : Nat) : ∀ l : List Nd, (up k l).length = l.length / 2
  | [] => rfl
  | [_] => by simp [up]
  | a :: b :: l => by
    simp only [up, List.length_cons, up_length k l]
    omega
/-- Two more. -/
theorem up_take (k : Nat) : ∀ (l : List Nd) (i : Nat) (h : 2 * i + 1 < l.length), up k (l.take (2 * (i + 1))) = up k (l.take (2 * i)) ++ [joinN (k : Int) (l[2 * i]'(by omega)) l[2 * i + 1]]
  | [], i, h => by simp at h
  | [_], i, h => by simp at h
  | a :: b :: l, 0, _ => by simp [up]
  | a :: b :: l, i + 1, h => by
    have e1 : (a :: b :: l).take (2 * (i + 1 + 1)) = a :: b :: l.take (2 * (i + 1)) := by rw [show 2 * (i + 1 + 1) = 2 * (i + 1) + 1 + 1 by omega]; rfl
    have e2 : (a :: b :: l).take (2 * (i + 1)) = a :: b :: l.take (2 * i) := by rw [show 2 * (i + 1) = 2 * i + 1 + 1 by omega]; rfl
    have hl : 2 * i + 1 < l.length := by simp at h; omega
    rw [e1, e2]
    simp only [up, List.cons_append]
    rw [up_take k l i hl]
    rfl
def lvl (leaves : List Nd) : Nat → List Nd
  | 0 => leaves
  | k + 1 => up (k + 1) (lvl leaves k)
theorem lvl_length (leaves : List Nd) : ∀ k : Nat, (lvl leaves k).length = leaves.length / 2 ^ k
  | 0 => by simp [lvl]
  | k + 1 => by
    rw [lvl, up_length, lvl_length leaves k, Nat.div_div_eq_div_mul, Nat.pow_succ]
def lvls (leaves : List Nd) (n : Nat) : List (List Nd) := (List.range n).map (lvl leaves)
theorem lvls_succ (leaves : List Nd) (n : Nat) : lvls leaves (n + 1) = lvls leaves n ++ [lvl leaves n] := by simp [lvls, List.range_succ]
theorem lvls_length (leaves : List Nd) (n : Nat) : (lvls leaves n).length = n := by simp [lvls]
end Go.Lin
namespace Go.Proofs.YtdnnjgjaffkdfaaDoor
open Go Go.RowKit Go.Bul Go.Thg Go.Lin
/-- Nodes that a slice reads as; a row of them; a row of slices. -/
def NIn (w : World) (A : Option Addr) (n : Nat) (l : List Nd) : Prop := Reads w 16 A n (ndCells l)
theorem NIn.len {w : World} {A : Option Addr} {n : Nat} {l : List Nd} (h : NIn w A n l) : n = l.length := by
  have := h.1
  rw [ndCells_length] at this
  omega
theorem NIn.keep {w w' : World} {A : Option Addr} {n : Nat} {l : List Nd} (h : NIn w A n l) (hb : Below w.heap.size w w') : NIn w' A n l := Reads.keep h hb
theorem NIn.row {w : World} {A : Option Addr} {n : Nat} {l : List Nd} (h : NIn w A n l) (i : Nat) (hi : i < l.length) : ∃ g off, A = some ⟨g, off, none⟩ ∧ g < w.heap.size ∧ ∀ j u, (ndC l[i])[j]? = some u → w.cell? ⟨g, off + i * 16 + j, none⟩ = some u := by
  obtain ⟨g, off, rfl, hg, hc⟩ := h.2 (by have := h.len; omega)
  refine ⟨g, off, rfl, hg, fun j u hu => ?_⟩
  have := hc _ _ (ndCells_get l i hi j u hu)
  rwa [← Nat.add_assoc] at this
def ndT (v : Value) (l : List Nd) : Thing := rowT 89 16 v l.length (ndCells l)
def slT (v : Value) (vs : List Value) : Thing := rowT 93 1 v vs.length vs
def ndRows (vs : List Value) (lv : List (List Nd)) : List Thing := (vs.zip lv).map fun x => ndT x.1 x.2
theorem ndT_form {v : Value} {l : List Nd} {w : World} (h : (ndT v l).P w) : ∃ A c, v = .slice A l.length c ∧ l.length ≤ c ∧ NIn w A l.length l := by
  obtain ⟨A, c, h1, h2, _⟩ := OffRow.form h
  subst h1
  exact ⟨A, c, rfl, h2, OffRow.reads h⟩
theorem ndT_in {A : Option Addr} {n c : Nat} {l : List Nd} {w : World} (h : (ndT (.slice A n c) l).P w) : NIn w A n l := by
  obtain ⟨A', c', he, _, hn⟩ := ndT_form h
  have e1 : A = A' := by injection he
  have e2 : n = l.length := by injection he
  subst e1 e2
  exact hn
theorem ndRows_snoc {vs : List Value} {lv : List (List Nd)} (hl : vs.length = lv.length) (v : Value) (l : List Nd) : ndRows (vs ++ [v]) (lv ++ [l]) = ndRows vs lv ++ [ndT v l] := by
  unfold ndRows
  rw [List.zip_append hl, List.map_append]
  rfl
theorem ndRows_mem {vs : List Value} {lv : List (List Nd)} (hl : vs.length = lv.length) (i : Nat) (h : i < lv.length) : ndT (vs[i]'(by omega)) lv[i] ∈ ndRows vs lv := by
  unfold ndRows
  refine List.mem_map.2 ⟨(vs[i]'(by omega), lv[i]), ?_, rfl⟩
  rw [List.mem_iff_getElem]
  exact ⟨i, by simp; omega, by simp⟩
theorem nbecomes_zero {G : List Nat} {w w' : World} (A : Option Addr) (h : KeptBut G w w') : Becomes G w (ndT (.slice A 0 0) []) w' :=
  ⟨OffRow.empty w' _ _ A, h, fun g hg => by rw [show (ndT (.slice A 0 0) []).fp = [] from sFp_zero] at hg; cases hg⟩
section
variable {w w0 : World} {G : List Nat} {L : List Ent} {R : List Thing} {ops : Array Oper} {rest : List Oper} {o : Oper} {a : Act} {Q : Exit → Act → World → Prop} {s x : Operand} {v y : Value} {xs ys : List Nd} {m : Nat} {F : Thing → List Thing} {A : Option Addr} {n c : Nat}
/-- append nodes onto a row of nodes. -/
theorem lan (hs : Src Tryd.prog 16 93 y m (ndCells ys) w) (hM : Mem G w0 L R w) (h63 : xs.length + ys.length ≤ 1000000000)
    (h : ∀ A' N c' w', Hid (N = (xs ++ ys).length) → Mem G w0 L (F (ndT (.slice A' N c') (xs ++ ys))) w' → wpList Tryd.prog ops Q rest (a.put o.dst (.slice A' N c')) w')
    (hgd : o.guard = none := by rfl) (ho : o.op = .call { callee := .builtin .append, args := #[s, x], argTypes := #[93, 93] } := by rfl) (hv : a.eval s = v := by rfl) (hR : UpdR (ndT v xs) R F := by repeat (first | exact UpdR.head _ _ | apply UpdR.tail)) (hy : a.eval x = y := by rfl) : wpList Tryd.prog ops Q (o :: rest) a w := by
  have hl : m = ys.length := by have := hs.newsLen; rw [ndCells_length] at this; omega
  subst hl
  refine wpList_append_thing hM 93 _ 89 (.agg (ndC nd0)) 16 16 Tryd.underlying93 info_nd (by exact ndC_size _) hgd s x ho v hv xs.length (ndCells xs) F hR y hy _ _ hs h63 (by decide) fun A' N c' w' hN hm => ?_
  refine h A' N c' w' (Lib.hid (by simp [hN])) ?_
  have e : ndT (.slice A' N c') (xs ++ ys) = rowT 89 16 (.slice A' N c') N (ndCells xs ++ ndCells ys) := by
    unfold ndT
    rw [hN, ndCells_app]
    simp
  rw [e]
  exact hm
theorem info_sl : (Tryd.prog.info? 93).map (fun i => (i.zero, i.size, i.bytes)) = some (some (.slice none 0 0), 1, 24) := by kernel_rfl
/-- append a slice onto a row of slices. -/
theorem lasl {vs : List Value} {B : Option Addr} {k d : Nat} {g : Nat} (hM : Mem G w0 (⟨g, 93, 1, #[.slice B k d]⟩ :: L) (slT v vs :: R) w) (h63 : vs.length ≤ 1000000)
    (h : ∀ A' N c' w', Hid (N = (vs ++ [Value.slice B k d]).length) → Mem G w0 (⟨g, 93, 1, #[.slice B k d]⟩ :: L) (slT (.slice A' N c') (vs ++ [Value.slice B k d]) :: R) w' → wpList Tryd.prog ops Q rest (a.put o.dst (.slice A' N c')) w')
    (hgd : o.guard = none := by rfl) (ho : o.op = .call { callee := .builtin .append, args := #[s, x], argTypes := #[169, 169] } := by rfl) (hv : a.eval s = v := by rfl) (hx : a.eval x = .slice (some ⟨g, 0, none⟩) 1 1 := by rfl) : wpList Tryd.prog ops Q (o :: rest) a w := by
  have hB : Blk w g 93 #[.slice B k d] := hM.blk (List.Mem.head _)
  have hs : Src Tryd.prog 1 169 (.slice (some ⟨g, 0, none⟩) 1 1) 1 [.slice B k d] w := by
    refine Src.ofSlice w Tryd.underlying169 _ 1 1 _ rfl (fun j u hu => ?_) (by simp [Value.oneCell'])
    rw [addr_at]
    exact (hB.cell _).trans (by rw [Nat.zero_add]; simpa using hu)
  refine wpList_append_thing hM 169 169 93 _ 1 24 Tryd.underlying169 info_sl rfl hgd s x ho v hv vs.length vs _ (UpdR.head _ _) _ hx 1 _ hs (by omega) (by decide) fun A' N c' w' hN hm => ?_
  refine h A' N c' w' (Lib.hid (by simp [hN])) ?_
  have e : slT (.slice A' N c') (vs ++ [Value.slice B k d]) = rowT 93 1 (.slice A' N c') N (vs ++ [Value.slice B k d]) := by
    unfold slT
    rw [hN]
    simp
  rw [e]
  exact hm
/-- A block becomes a row. -/
theorem ent_row {g n k size : Nat} {t : TypeId} {cs : Array Value} (hM : Mem G w0 (⟨g, t, n, cs⟩ :: L) R w) (hk : 0 < k) (hk2 : k ≤ 1000000) (hn : n = k * size) : Mem G w0 L (rowT t size (.slice (some ⟨g, 0, none⟩) k k) k cs.toList :: R) w := by
  have hB := hM.blk (List.Mem.head _)
  have hsz := hM.size (List.Mem.head _)
  have hP : OffRow w t size (.slice (some ⟨g, 0, none⟩) k k) k cs.toList := by
    refine ⟨by rw [Array.length_toList, hsz, hn], _, _, rfl, Nat.le_refl _, by unfold maxLen; omega, fun _ => ⟨g, 0, cs, rfl, hB, by rw [hsz, hn, Nat.zero_add]; exact Nat.le_refl _, fun j hj => by rw [Nat.zero_add]; simp⟩⟩
  refine hM.repack (fun b hb => hM.blk_ b (List.mem_cons_of_mem _ hb)) (fun r hr => ?_) ?_
  · rcases List.mem_cons.1 hr with rfl | hr
    · exact hP
    · exact hM.thing r hr
  · simp only [foot, List.flatMap_cons, List.map_cons]
    rw [show (rowT t size (.slice (some ⟨g, 0, none⟩) k k) k cs.toList).fp = [g] from sFp_pos hk]
    exact (List.perm_append_comm_assoc _ _ _).trans (by simp)
end
set_option maxRecDepth 20000 in
theorem nclone_any (A : Option Addr) (n c : Nat) (xs : List Nd) (w : World) (hr : NIn w A n xs) (h63 : n ≤ 1000000000) :
    Calls Tryd.prog 128 #[.slice A n c] w fun e w' => ∃ A' c', e = .returned (.slice A' n c') ∧ Becomes [] w (ndT (.slice A' n c') xs) w' := by
  have hM := Mem.start [] w
  have hq := fun w => Lib.run_eql_slice_nil (P := Tryd.prog) w 93 89 A n c 0 0 Tryd.underlying93
  have HR := Lib.hid hr
  have hn := hr.len
  cases A with
  | none =>
    have h0 : n = 0 := by
      rcases Nat.eq_zero_or_pos n with h0 | h0
      · exact h0
      · obtain ⟨_, _, he, _⟩ := hr.2 h0
        cases he
    subst h0
    obtain rfl : xs = [] := List.eq_nil_of_length_eq_zero hn.symm
    have hq' : ∀ w, (binOp .eql 93 (.slice none 0 c) (.slice none 0 0)).run Tryd.prog w = .ok (.bool true) w := hq
    clear hr hq h63 hn HR
    go_enter Tryd.func128, Tryd.ntmps128
    go_wp2_with (first | ((first | with_reducible refine at_load ?_ | ((with_reducible refine at_load_g ?_ ?_); (· rfl))); first | refine lc hM ?_ | refine ll hM ?_ | refine lp hM ?_) | ((with_reducible refine at_store ?_); first | (refine ls hM ?_; clear hM; intro wx hM) | (refine lw hM ?_; clear hM; intro wx hM) | (refine lt hM ?_; clear hM; intro wx hM)) | ((with_reducible refine at_alloc ?_); refine lz hM ?_; clear hM; intro gx wx hM) | ((with_reducible refine at_box ?_); refine lb hM ?_; clear hM; intro gx wx hM))
    go_ret
    exact ⟨none, 0, rfl, nbecomes_zero none (KeptBut.refl _ _)⟩
  | some ad =>
    have HN := Lib.hid hn
    clear hr hn
    have hq' : ∀ w, (binOp .eql 93 (.slice (some ad) n c) (.slice none 0 0)).run Tryd.prog w = .ok (.bool false) w := hq
    clear hq
    have M1 := fun (cs : Array Value) (t : TypeId) (g : Addr) => (hM.step ((Below.refl _ _).alloc (Nat.le_refl _) (.cells cs t))).newThing (nbecomes_zero (some g) (KeptBut.refl _ _))
    have MM := Lib.hid M1
    have S1 := fun (cs : Array Value) (t : TypeId) => (Reads.keep HR.out ((Below.refl _ _).alloc (Nat.le_refl _) (.cells cs t))).src (c := c) (P := Tryd.prog) (tx := 93) Tryd.underlying93 (ndCells_one _)
    have SS := Lib.hid S1
    have hle : ([] : List Nd).length + xs.length ≤ 1000000000 := by have := HN.out; simp; omega
    clear M1 S1 hM
    go_enter Tryd.func128, Tryd.ntmps128
    go_wp2_with (first | ((with_reducible refine at_append ?_); refine lan (SS.out _ _) (MM.out _ _ _) hle ?_; intro A' N c' wx hN hM) | ((first | with_reducible refine at_load ?_ | ((with_reducible refine at_load_g ?_ ?_); (· rfl))); first | refine lc hM ?_ | refine ll hM ?_ | refine lp hM ?_) | ((with_reducible refine at_store ?_); first | (refine ls hM ?_; clear hM; intro wx hM) | (refine lw hM ?_; clear hM; intro wx hM) | (refine lt hM ?_; clear hM; intro wx hM)) | ((with_reducible refine at_alloc ?_); refine lz hM ?_; clear hM; intro gx wx hM) | ((with_reducible refine at_box ?_); refine lb hM ?_; clear hM; intro gx wx hM))
    have hN' : N = n := by rw [hN.out, HN.out]; rfl
    subst hN'
    go_ret
    exact ⟨A', c', rfl, hM.becomes (by exact List.Mem.head _)⟩
end Go.Proofs.YtdnnjgjaffkdfaaDoor
