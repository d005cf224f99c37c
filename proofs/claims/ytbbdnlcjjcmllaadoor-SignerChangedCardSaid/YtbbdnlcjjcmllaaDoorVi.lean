/- Slices written out: of bytes, of slices of bytes, of nodes. Regions whose order is drawn, by an invariant: what each operation that has been listed has left. Regions whose order is drawn, step by step in an order of one's own choice: operations that yield in every world, blocks of quiet operations, forced ones. -/
import Derived.Test.YtbbdnlcjjcmllaaDoorVh
import Derived.Great.BuildSlice
import Derived.Test.YtbbdnlcjjcmllaaDoorVb
import Derived.OwnWalk
namespace Go.Lin
theorem list16 {l : List Nat} (h : l.length = 16) : ∃ a0 a1 a2 a3 a4 a5 a6 a7 a8 a9 a10 a11 a12 a13 a14 a15, l = [a0, a1, a2, a3, a4, a5, a6, a7, a8, a9, a10, a11, a12, a13, a14, a15] := by
  match l, h with
  | [a0, a1, a2, a3, a4, a5, a6, a7, a8, a9, a10, a11, a12, a13, a14, a15], _ => exact ⟨_, _, _, _, _, _, _, _, _, _, _, _, _, _, _, _, rfl⟩
end Go.Lin
namespace Go.Proofs.YtbbdnlcjjcmllaaDoor
open Go Go.RowKit Go.Bul Go.Thg Go.Lin
theorem info_bytes : (Tryd.prog.info? 79).map (fun i => (i.zero, i.size, i.bytes)) = some (some (.slice none 0 0), 1, 24) := by kernel_rfl
set_option maxRecDepth 20000
theorem run_lbb1 (b0 : Int) (w : World) : (Instr.buildSlice 79 1 #[(0, .int .u8 b0)]).run Tryd.prog w = .ok (.slice (some ⟨w.heap.size, 0, none⟩) 1 1) (w.alloc (.cells #[.int .u8 b0] 5)) := by
  have h := info_byte
  cases hq : Tryd.prog.info? 5 with
  | none => rw [hq] at h; simp at h
  | some i =>
    rw [hq] at h
    simp only [Option.map_some, Option.some.injEq, Prod.mk.injEq] at h
    refine run_buildSlice w _ _ 1 _ _ i _ Tryd.underlying79 hq h.1 (by rw [h.2.1]; decide) (by rw [h.2.1]; decide) ?_
    rw [h.2.1]
    have hz : Array.map (fun x => (Value.int IntKind.u8 0).cells[x % (Value.int IntKind.u8 0).cells.size]!) (Array.range (1 * 1)) = #[Value.int IntKind.u8 0] := by kernel_rfl
    rw [hz]
    simp [Instr.fill, Value.cells]
theorem run_lbb2 (b0 b1 : Int) (w : World) : (Instr.buildSlice 79 2 #[(0, .int .u8 b0), (1, .int .u8 b1)]).run Tryd.prog w = .ok (.slice (some ⟨w.heap.size, 0, none⟩) 2 2) (w.alloc (.cells #[.int .u8 b0, .int .u8 b1] 5)) := by
  have h := info_byte
  cases hq : Tryd.prog.info? 5 with
  | none => rw [hq] at h; simp at h
  | some i =>
    rw [hq] at h
    simp only [Option.map_some, Option.some.injEq, Prod.mk.injEq] at h
    refine run_buildSlice w _ _ 2 _ _ i _ Tryd.underlying79 hq h.1 (by rw [h.2.1]; decide) (by rw [h.2.1]; decide) ?_
    rw [h.2.1]
    have hz : Array.map (fun x => (Value.int IntKind.u8 0).cells[x % (Value.int IntKind.u8 0).cells.size]!) (Array.range (2 * 1)) = #[Value.int IntKind.u8 0, Value.int IntKind.u8 0] := by kernel_rfl
    rw [hz]
    simp [Instr.fill, Value.cells]
theorem run_lbb5 (b0 b1 b2 b3 b4 : Int) (w : World) : (Instr.buildSlice 79 5 #[(0, .int .u8 b0), (1, .int .u8 b1), (2, .int .u8 b2), (3, .int .u8 b3), (4, .int .u8 b4)]).run Tryd.prog w = .ok (.slice (some ⟨w.heap.size, 0, none⟩) 5 5) (w.alloc (.cells #[.int .u8 b0, .int .u8 b1, .int .u8 b2, .int .u8 b3, .int .u8 b4] 5)) := by
  have h := info_byte
  cases hq : Tryd.prog.info? 5 with
  | none => rw [hq] at h; simp at h
  | some i =>
    rw [hq] at h
    simp only [Option.map_some, Option.some.injEq, Prod.mk.injEq] at h
    refine run_buildSlice w _ _ 5 _ _ i _ Tryd.underlying79 hq h.1 (by rw [h.2.1]; decide) (by rw [h.2.1]; decide) ?_
    rw [h.2.1]
    have hz : Array.map (fun x => (Value.int IntKind.u8 0).cells[x % (Value.int IntKind.u8 0).cells.size]!) (Array.range (5 * 1)) = #[Value.int IntKind.u8 0, Value.int IntKind.u8 0, Value.int IntKind.u8 0, Value.int IntKind.u8 0, Value.int IntKind.u8 0] := by kernel_rfl
    rw [hz]
    simp [Instr.fill, Value.cells]
theorem run_lbs2 (A0 A1 : Option Addr) (n0 c0 n1 c1 : Nat) (w : World) : (Instr.buildSlice 130 2 #[(0, .slice A0 n0 c0), (1, .slice A1 n1 c1)]).run Tryd.prog w = .ok (.slice (some ⟨w.heap.size, 0, none⟩) 2 2) (w.alloc (.cells #[.slice A0 n0 c0, .slice A1 n1 c1] 79)) := by
  have h := info_bytes
  cases hq : Tryd.prog.info? 79 with
  | none => rw [hq] at h; simp at h
  | some i =>
    rw [hq] at h
    simp only [Option.map_some, Option.some.injEq, Prod.mk.injEq] at h
    refine run_buildSlice w _ _ 2 _ _ i _ Tryd.underlying130 hq h.1 (by rw [h.2.1]; decide) (by rw [h.2.1]; decide) ?_
    rw [h.2.1]
    have hz : Array.map (fun x => (Value.slice none 0 0).cells[x % (Value.slice none 0 0).cells.size]!) (Array.range (2 * 1)) = #[Value.slice none 0 0, Value.slice none 0 0] := by kernel_rfl
    rw [hz]
    simp [Instr.fill, Value.cells]
theorem run_lbs3 (A0 A1 A2 : Option Addr) (n0 c0 n1 c1 n2 c2 : Nat) (w : World) : (Instr.buildSlice 130 3 #[(0, .slice A0 n0 c0), (1, .slice A1 n1 c1), (2, .slice A2 n2 c2)]).run Tryd.prog w = .ok (.slice (some ⟨w.heap.size, 0, none⟩) 3 3) (w.alloc (.cells #[.slice A0 n0 c0, .slice A1 n1 c1, .slice A2 n2 c2] 79)) := by
  have h := info_bytes
  cases hq : Tryd.prog.info? 79 with
  | none => rw [hq] at h; simp at h
  | some i =>
    rw [hq] at h
    simp only [Option.map_some, Option.some.injEq, Prod.mk.injEq] at h
    refine run_buildSlice w _ _ 3 _ _ i _ Tryd.underlying130 hq h.1 (by rw [h.2.1]; decide) (by rw [h.2.1]; decide) ?_
    rw [h.2.1]
    have hz : Array.map (fun x => (Value.slice none 0 0).cells[x % (Value.slice none 0 0).cells.size]!) (Array.range (3 * 1)) = #[Value.slice none 0 0, Value.slice none 0 0, Value.slice none 0 0] := by kernel_rfl
    rw [hz]
    simp [Instr.fill, Value.cells]
theorem run_lbn1 (y0 : Nd) (w : World) : (Instr.buildSlice 69 1 #[(0, .agg (ndC y0))]).run Tryd.prog w = .ok (.slice (some ⟨w.heap.size, 0, none⟩) 1 1) (w.alloc (.cells (ndC y0) 41)) := by
  have h := info_nd
  cases hq : Tryd.prog.info? 41 with
  | none => rw [hq] at h; simp at h
  | some i =>
    rw [hq] at h
    simp only [Option.map_some, Option.some.injEq, Prod.mk.injEq] at h
    refine run_buildSlice w _ _ 1 _ _ i _ Tryd.underlying69 hq h.1 (by rw [h.2.1]; decide) (by rw [h.2.1]; decide) ?_
    rw [h.2.1]
    have hz : Array.map (fun x => (Value.agg (ndC nd0)).cells[x % (Value.agg (ndC nd0)).cells.size]!) (Array.range (1 * 16)) = #[Value.int IntKind.u8 0, Value.int IntKind.u8 0, Value.int IntKind.u8 0, Value.int IntKind.u8 0, Value.int IntKind.u8 0, Value.int IntKind.u8 0, Value.int IntKind.u8 0, Value.int IntKind.u8 0, Value.int IntKind.u8 0, Value.int IntKind.u8 0, Value.int IntKind.u8 0, Value.int IntKind.u8 0, Value.int IntKind.u8 0, Value.int IntKind.u8 0, Value.int IntKind.u8 0, Value.int IntKind.u8 0] := by kernel_rfl
    rw [hz]
    obtain ⟨l0, hl0, _⟩ := y0
    obtain ⟨p0_0, p0_1, p0_2, p0_3, p0_4, p0_5, p0_6, p0_7, p0_8, p0_9, p0_10, p0_11, p0_12, p0_13, p0_14, p0_15, rfl⟩ := list16 hl0
    simp [Instr.fill, Value.cells, ndC, cellsOf, vals]
section
variable {w w0 : World} {G : List Nat} {L : List Ent} {R : List Thing} {ops : Array Oper} {rest : List Oper} {o : Oper} {a : Act} {Q : Exit → Act → World → Prop} {x0 x1 x2 x3 x4 : Operand}
theorem lbb1 {b0 : Int} (hM : Mem G w0 L R w) (h : ∀ g w', Mem G w0 (⟨g, 5, 1, #[.int .u8 b0]⟩ :: L) R w' → wpList Tryd.prog ops Q rest (a.put o.dst (.slice (some ⟨g, 0, none⟩) 1 1)) w')
    (hgd : o.guard = none := by rfl) (ho : o.op = .buildSlice 79 1 #[(0, x0)] := by rfl) (hx0 : a.eval x0 = .int .u8 b0 := by rfl) : wpList Tryd.prog ops Q (o :: rest) a w := by
  refine wpList_plain hgd fun K hK => ?_
  unfold Oper.wp execOp
  simp only [ho, List.map_toArray, List.map_cons, List.map_nil, hx0, Sem.run_bind, run_lbb1, Result.andThen_ok]
  exact hK _ _ (h _ _ (hM.alloc _ _ (by first | rfl | exact ndC_size _ | exact ndC2_size _ _)))
theorem lbb2 {b0 b1 : Int} (hM : Mem G w0 L R w) (h : ∀ g w', Mem G w0 (⟨g, 5, 2, #[.int .u8 b0, .int .u8 b1]⟩ :: L) R w' → wpList Tryd.prog ops Q rest (a.put o.dst (.slice (some ⟨g, 0, none⟩) 2 2)) w')
    (hgd : o.guard = none := by rfl) (ho : o.op = .buildSlice 79 2 #[(0, x0), (1, x1)] := by rfl) (hx0 : a.eval x0 = .int .u8 b0 := by rfl) (hx1 : a.eval x1 = .int .u8 b1 := by rfl) : wpList Tryd.prog ops Q (o :: rest) a w := by
  refine wpList_plain hgd fun K hK => ?_
  unfold Oper.wp execOp
  simp only [ho, List.map_toArray, List.map_cons, List.map_nil, hx0, hx1, Sem.run_bind, run_lbb2, Result.andThen_ok]
  exact hK _ _ (h _ _ (hM.alloc _ _ (by first | rfl | exact ndC_size _ | exact ndC2_size _ _)))
theorem lbb5 {b0 b1 b2 b3 b4 : Int} (hM : Mem G w0 L R w) (h : ∀ g w', Mem G w0 (⟨g, 5, 5, #[.int .u8 b0, .int .u8 b1, .int .u8 b2, .int .u8 b3, .int .u8 b4]⟩ :: L) R w' → wpList Tryd.prog ops Q rest (a.put o.dst (.slice (some ⟨g, 0, none⟩) 5 5)) w')
    (hgd : o.guard = none := by rfl) (ho : o.op = .buildSlice 79 5 #[(0, x0), (1, x1), (2, x2), (3, x3), (4, x4)] := by rfl) (hx0 : a.eval x0 = .int .u8 b0 := by rfl) (hx1 : a.eval x1 = .int .u8 b1 := by rfl) (hx2 : a.eval x2 = .int .u8 b2 := by rfl) (hx3 : a.eval x3 = .int .u8 b3 := by rfl) (hx4 : a.eval x4 = .int .u8 b4 := by rfl) : wpList Tryd.prog ops Q (o :: rest) a w := by
  refine wpList_plain hgd fun K hK => ?_
  unfold Oper.wp execOp
  simp only [ho, List.map_toArray, List.map_cons, List.map_nil, hx0, hx1, hx2, hx3, hx4, Sem.run_bind, run_lbb5, Result.andThen_ok]
  exact hK _ _ (h _ _ (hM.alloc _ _ (by first | rfl | exact ndC_size _ | exact ndC2_size _ _)))
theorem lbs2 {A0 A1 : Option Addr} {n0 c0 n1 c1 : Nat} (hM : Mem G w0 L R w) (h : ∀ g w', Mem G w0 (⟨g, 79, 2, #[.slice A0 n0 c0, .slice A1 n1 c1]⟩ :: L) R w' → wpList Tryd.prog ops Q rest (a.put o.dst (.slice (some ⟨g, 0, none⟩) 2 2)) w')
    (hgd : o.guard = none := by rfl) (ho : o.op = .buildSlice 130 2 #[(0, x0), (1, x1)] := by rfl) (hx0 : a.eval x0 = .slice A0 n0 c0 := by rfl) (hx1 : a.eval x1 = .slice A1 n1 c1 := by rfl) : wpList Tryd.prog ops Q (o :: rest) a w := by
  refine wpList_plain hgd fun K hK => ?_
  unfold Oper.wp execOp
  simp only [ho, List.map_toArray, List.map_cons, List.map_nil, hx0, hx1, Sem.run_bind, run_lbs2, Result.andThen_ok]
  exact hK _ _ (h _ _ (hM.alloc _ _ (by first | rfl | exact ndC_size _ | exact ndC2_size _ _)))
theorem lbs3 {A0 A1 A2 : Option Addr} {n0 c0 n1 c1 n2 c2 : Nat} (hM : Mem G w0 L R w) (h : ∀ g w', Mem G w0 (⟨g, 79, 3, #[.slice A0 n0 c0, .slice A1 n1 c1, .slice A2 n2 c2]⟩ :: L) R w' → wpList Tryd.prog ops Q rest (a.put o.dst (.slice (some ⟨g, 0, none⟩) 3 3)) w')
    (hgd : o.guard = none := by rfl) (ho : o.op = .buildSlice 130 3 #[(0, x0), (1, x1), (2, x2)] := by rfl) (hx0 : a.eval x0 = .slice A0 n0 c0 := by rfl) (hx1 : a.eval x1 = .slice A1 n1 c1 := by rfl) (hx2 : a.eval x2 = .slice A2 n2 c2 := by rfl) : wpList Tryd.prog ops Q (o :: rest) a w := by
  refine wpList_plain hgd fun K hK => ?_
  unfold Oper.wp execOp
  simp only [ho, List.map_toArray, List.map_cons, List.map_nil, hx0, hx1, hx2, Sem.run_bind, run_lbs3, Result.andThen_ok]
  exact hK _ _ (h _ _ (hM.alloc _ _ (by first | rfl | exact ndC_size _ | exact ndC2_size _ _)))
theorem lbn1 {y0 : Nd} (hM : Mem G w0 L R w) (h : ∀ g w', Mem G w0 (⟨g, 41, 16, (ndC y0)⟩ :: L) R w' → wpList Tryd.prog ops Q rest (a.put o.dst (.slice (some ⟨g, 0, none⟩) 1 1)) w')
    (hgd : o.guard = none := by rfl) (ho : o.op = .buildSlice 69 1 #[(0, x0)] := by rfl) (hx0 : a.eval x0 = .agg (ndC y0) := by rfl) : wpList Tryd.prog ops Q (o :: rest) a w := by
  refine wpList_plain hgd fun K hK => ?_
  unfold Oper.wp execOp
  simp only [ho, List.map_toArray, List.map_cons, List.map_nil, hx0, Sem.run_bind, run_lbn1, Result.andThen_ok]
  exact hK _ _ (h _ _ (hM.alloc _ _ (by first | rfl | exact ndC_size _ | exact ndC2_size _ _)))
/-- What a block reads as. -/
theorem reads_ent {g n : Nat} {t : TypeId} {cs : Array Value} (hM : Mem G w0 L R w) (hL : ⟨g, t, n, cs⟩ ∈ L) : Reads w 1 (some ⟨g, 0, none⟩) n cs.toList := by
  have hB := hM.blk hL
  refine ⟨by rw [Array.length_toList, hM.size hL, Nat.mul_one], fun _ => ⟨g, 0, rfl, hB.lt, fun j u hu => (hB.cell _).trans ?_⟩⟩
  rw [Nat.zero_add]
  simpa using hu
end
end Go.Proofs.YtbbdnlcjjcmllaaDoor
namespace Go.Bul
open Go
theorem count_set : ∀ (l : List Bool) (i : Nat), l.getD i true = false → (l.set i true).countP (fun b => !b) + 1 = l.countP (fun b => !b)
  | [], i, h => by simp at h
  | b :: l, 0, h => by
    simp at h
    subst h
    simp
  | b :: l, i + 1, h => by
    have := count_set l i (by simpa using h)
    cases b <;> simp only [List.set_cons_succ, List.countP_cons] at this ⊢ <;> simp at this ⊢ <;> omega
section
variable {P : Program} {ops : Array Oper} {md : Region.Mode} {Q : Exit → Act → World → Prop}
theorem any_inv (Inv : Array Bool → Act → World → Prop)
    (hstep : ∀ listed a w i, Inv listed a w → i ∈ Region.ready md ops listed → ∀ K : Act → World → Prop, (∀ a' w', Inv (listed.setIfInBounds i true) a' w' → K a' w') → wpOp P ops Q i K a w)
    (hend : ∀ listed a w, Inv listed a w → Region.ready md ops listed = [] → Q .normal a w) :
    ∀ (fuel : Nat) (listed : Array Bool) (a : Act) (w : World), listed.toList.countP (fun b => !b) ≤ fuel → Inv listed a w → wpAny P md ops Q fuel listed a w
  | 0, listed, a, w, hc, h => by
    have hr : Region.ready md ops listed = [] := by
      cases hq : Region.ready md ops listed with
      | nil => rfl
      | cons i r =>
        have hi : i ∈ Region.ready md ops listed := by rw [hq]; simp
        have h1 := (mem_ready.1 hi).1
        have := count_set listed.toList i (by simpa [List.getD, Array.getD_eq_getD_getElem?] using h1)
        omega
    exact ⟨hr, hend _ _ _ h hr⟩
  | f + 1, listed, a, w, hc, h => ⟨hend _ _ _ h, fun i hi => hstep listed a w i h hi _ fun a' w' h' => any_inv Inv hstep hend f _ a' w' (by
      have h1 := (mem_ready.1 hi).1
      have := count_set listed.toList i (by simpa [List.getD, Array.getD_eq_getD_getElem?] using h1)
      simp only [Array.toList_setIfInBounds]
      omega) h'⟩
theorem wp_region_inv {id : Nat} {a : Act} {w : World} (hm : P.follows .mixedOrders = true) (Inv : Array Bool → Act → World → Prop)
    (h0 : Inv (Array.replicate ops.size false) a { w with drawn := w.drawn + 1 })
    (hstep : ∀ listed a w i, Inv listed a w → i ∈ Region.ready .any ops listed → ∀ K : Act → World → Prop, (∀ a' w', Inv (listed.setIfInBounds i true) a' w' → K a' w') → wpOp P ops Q i K a w)
    (hend : ∀ listed a w, Inv listed a w → Region.ready .any ops listed = [] → Q .normal a w) : (Code.region id ops true).wp P Q a w :=
  wp_region_any hm (any_inv Inv hstep hend _ _ _ _ (by simp [List.countP_replicate]) h0)
end
end Go.Bul
namespace Go.Bul
open Go
/-- How many operations are still to come. -/
def toCome (listed : Array Bool) : Nat := listed.toList.countP (fun b => !b)
theorem toCome_set {listed : Array Bool} {i : Nat} (h : listed.getD i true = false) : toCome (listed.setIfInBounds i true) + 1 = toCome listed := by
  have := count_set listed.toList i (by simpa [List.getD, Array.getD_eq_getD_getElem?] using h)
  simpa only [toCome, Array.toList_setIfInBounds] using this
section
variable {P : Program} {ops : Array Oper} {Q : Exit → Act → World → Prop}
/-- The rest of a region, whatever order comes up. -/
def wpAll (P : Program) (ops : Array Oper) (Q : Exit → Act → World → Prop) (listed : Array Bool) (a : Act) (w : World) : Prop := ∀ fuel, toCome listed ≤ fuel → wpAny P .any ops Q fuel listed a w
theorem wp_region_all {id : Nat} {a : Act} {w : World} {l : List Oper} (hm : P.follows .mixedOrders = true) (h : wpAll P l.toArray Q (Array.replicate l.toArray.size false) a w.drew) : (Code.region id l.toArray true).wp P Q a w :=
  wp_region_any hm (h _ (by simp [toCome, List.countP_replicate]))
theorem wpAll_done {listed : Array Bool} {a : Act} {w : World} (hr : Region.ready .any ops listed = []) (h : Q .normal a w) : wpAll P ops Q listed a w := fun fuel _ => wpAny_done hr h fuel
theorem toCome_pos {listed : Array Bool} {i : Nat} (hi : i ∈ Region.ready .any ops listed) : ∃ n, toCome listed = n + 1 := by
  have := toCome_set (mem_ready.1 hi).1
  exact ⟨_, this.symm⟩
/-- So many operations written out. -/
def pickOps (l : List Oper) (is : List Nat) : List Oper := is.filterMap fun i => l[i]?
def marks : List Nat → Array Bool → Array Bool
  | [], listed => listed
  | i :: is, listed => marks is (listed.setIfInBounds i true)
/-- Each comes up, and stands apart from all that does not wait for it. -/
def takeB (ops : Array Oper) : List Nat → Array Bool → Bool
  | [], _ => true
  | i :: is, listed => (Region.ready .any ops listed).contains i && Region.free .any ops listed i && takeB ops is (listed.setIfInBounds i true)
/-- Operations that yield in every world. -/
def wpPure (P : Program) (ops : Array Oper) (K : Act → Prop) : List Oper → Act → Prop
  | [], a => K a
  | o :: l, a => ∃ v, Yields P ops o v a ∧ wpPure P ops K l (a.put o.dst v)
theorem wpPure_nil {K : Act → Prop} {a : Act} (h : K a) : wpPure P ops K [] a := h
theorem wpPure_step {K : Act → Prop} {a : Act} {o : Oper} {l : List Oper} {v : Value} (hg : o.guard = none) (hy : ∀ w, (execOp a.eval o).run P w = .ok (.value v) w)
    (h : ∀ K' : Act → Prop, (∀ a', wpPure P ops K l a' → K' a') → K' (a.put o.dst v)) : wpPure P ops K (o :: l) a :=
  ⟨v, .inl ⟨by simp [Region.wanted, hg], hy⟩, h _ fun _ h => h⟩
theorem wpAll_takes {l : List Oper} (is : List Nat) (hsel : Region.noSelect l.toArray = true) (hQ : ∀ c a s v w, Q (.panic c) (Act.put a (some s) v) w → Q (.panic c) a w) {w : World} : ∀ {listed : Array Bool} {a : Act}, takeB l.toArray is listed = true →
    wpPure P l.toArray (fun a' => wpAll P l.toArray Q (marks is listed) a' w) (pickOps l is) a → wpAll P l.toArray Q listed a w := by
  induction is with
  | nil => intro listed a _ h; exact h
  | cons i is ih =>
    intro listed a hB h
    simp only [takeB, Bool.and_eq_true] at hB
    obtain ⟨⟨hr, hf⟩, hB⟩ := hB
    have hr' : i ∈ Region.ready .any l.toArray listed := by simpa using hr
    obtain ⟨_, o, ho, _⟩ := mem_ready.1 hr'
    have hp : pickOps l (i :: is) = o :: pickOps l is := by
      have : l[i]? = some o := by simpa using ho
      simp [pickOps, this]
    rw [hp] at h
    obtain ⟨v, hy, h⟩ := h
    intro fuel hfuel
    obtain ⟨n, hn⟩ := toCome_pos hr'
    obtain ⟨f, rfl⟩ : ∃ f, fuel = f + 1 := ⟨fuel - 1, by omega⟩
    refine wpAny_take ho hsel hf hr (fun c a w hq => by cases hd : o.dst with | none => rw [hd] at hq; exact hq | some s => rw [hd] at hq; exact hQ c a s _ w hq) hy (ih hB h f ?_)
    have := toCome_set (mem_ready.1 hr').1
    omega
/-- The only one that may come up. -/
def thenQ (Q : Exit → Act → World → Prop) (W : Act → World → Prop) : Exit → Act → World → Prop
  | .normal => W
  | x => Q x
theorem wp_of_then {o : Oper} {a : Act} {w : World} {K W : Act → World → Prop} (h : o.wp P a w K (thenQ Q W)) : o.wp P a w K Q := by
  unfold Oper.wp at *
  generalize (execOp a.eval o).run P w = r at *
  cases r with
  | ok n w' =>
    cases n with
    | enter f args => exact Calls.mono h fun e w'' he => by cases e <;> exact he
    | _ => exact h
  | halt x w' => cases x <;> exact h
theorem wpAll_one {l : List Oper} {listed : Array Bool} (k : Nat) {o : Oper} {a : Act} {w : World} (ho : l[k]? = some o) (hr : Region.ready .any l.toArray listed = [k])
    (h : wpList P l.toArray (thenQ Q (wpAll P l.toArray Q (listed.setIfInBounds k true))) [o] a w) : wpAll P l.toArray Q listed a w := by
  intro fuel hfuel
  have hk : k ∈ Region.ready .any l.toArray listed := by rw [hr]; simp
  obtain ⟨n, hn⟩ := toCome_pos hk
  obtain ⟨f, rfl⟩ : ∃ f, fuel = f + 1 := ⟨fuel - 1, by omega⟩
  refine wpAny_all hr (by simp) fun i hi => ?_
  obtain rfl : i = k := by simpa using hi
  have hK : ∀ a' w', thenQ Q (wpAll P l.toArray Q (listed.setIfInBounds i true)) .normal a' w' → wpAny P .any l.toArray Q f (listed.setIfInBounds i true) a' w' := fun a' w' h' => h' f (by
    have := toCome_set (mem_ready.1 hk).1
    omega)
  have ho' : l.toArray[i]? = some o := by simpa using ho
  unfold wpOp
  simp only [ho']
  unfold wpList at h
  split
  · rename_i hw
    rw [if_pos hw] at h
    rcases h with h | ⟨h1, h2⟩
    · exact .inl (Oper.wp_mono (fun a' w' h' => hK a' w' h') (wp_of_then h))
    · exact .inr ⟨h1, h2⟩
  · rename_i hw
    rw [if_neg hw] at h
    exact hK _ _ h
/-- All that is left comes up in one order. -/
def seqB (ops : Array Oper) : List Nat → Array Bool → Bool
  | [], listed => (Region.ready .any ops listed).isEmpty
  | i :: is, listed => decide (Region.ready .any ops listed = [i]) && seqB ops is (listed.setIfInBounds i true)
/-! ### A block of quiet operations that all else waits for -/
/-- t waits for i, perhaps through others. -/
inductive Behind (ops : Array Oper) (i : Nat) : Nat → Prop
  | one {t : Nat} (h : Region.waitsFor .any ops t i = true) : Behind ops i t
  | far {t j : Nat} (h : Region.waitsFor .any ops t j = true) (k : Behind ops i j) : Behind ops i t
def behindB (ops : Array Oper) (i : Nat) : Nat → Nat → Bool
  | 0, _ => false
  | f + 1, t => match ops[t]? with
    | none => false
    | some o => o.after.any fun e => Region.binds .any e && (e.on == i || behindB ops i f e.on)
theorem behind_of {i : Nat} : ∀ {f t : Nat}, behindB ops i f t = true → Behind ops i t
  | f + 1, t, h => by
    unfold behindB at h
    split at h
    · cases h
    · rename_i o ho
      obtain ⟨e, he, hb⟩ := Array.any_eq_true'.1 h
      simp only [Bool.and_eq_true, Bool.or_eq_true, beq_iff_eq] at hb
      have hw : Region.waitsFor .any ops t e.on = true := by
        unfold Region.waitsFor
        simp only [ho]
        exact Array.any_eq_true'.2 ⟨e, he, by simp [hb.1]⟩
      rcases hb.2 with h1 | h1
      · exact .one (h1 ▸ hw)
      · exact .far hw (behind_of h1)
def Closed (ops : Array Oper) (listed : Array Bool) : Prop := ∀ j oj, ops[j]? = some oj → listed.getD j false = true → ∀ e ∈ oj.after, Region.binds .any e = true → listed.getD e.on false = true
def closedB (ops : Array Oper) (listed : Array Bool) : Bool := (List.range ops.size).all fun j => !listed.getD j false || (match ops[j]? with | none => true | some o => o.after.all fun e => !Region.binds .any e || listed.getD e.on false)
theorem closed_of {listed : Array Bool} (h : closedB ops listed = true) : Closed ops listed := by
  intro j oj hj hl e he hb
  have h1 := List.all_eq_true.1 h j (List.mem_range.2 (Array.getElem?_eq_some_iff.1 hj).1)
  simp only [hl, Bool.not_true, Bool.false_or, hj] at h1
  have h2 := Array.all_eq_true'.1 h1 e he
  simpa [hb] using h2
theorem Closed.set {listed : Array Bool} {i : Nat} (inv : Closed ops listed) (hi : i ∈ Region.ready .any ops listed) : Closed ops (listed.setIfInBounds i true) := by
  obtain ⟨_, oi, hoi, hall⟩ := mem_ready.1 hi
  intro j oj hj hl e he hb
  by_cases hij : i = j
  · subst hij
    have : oj = oi := Option.some.inj (hj.symm.trans hoi)
    subst this
    exact getD_set_true (hall e he hb)
  · rw [getD_set_ne false hij] at hl
    exact getD_set_true (inv j oj hj hl e he hb)
theorem Behind.waits {listed : Array Bool} (inv : Closed ops listed) {i : Nat} (hi : listed.getD i true = false) : ∀ {t : Nat}, Behind ops i t → t ∉ Region.ready .any ops listed ∧ listed.getD t false = false := by
  intro t h
  have key : ∀ {t j : Nat}, Region.waitsFor .any ops t j = true → listed.getD j false = false → t ∉ Region.ready .any ops listed ∧ listed.getD t false = false := by
    intro t j hw hj
    obtain ⟨o, ho, e, he, hb, rfl⟩ := Region.waitsFor_spec hw
    refine ⟨fun hr => ?_, ?_⟩
    · obtain ⟨_, o', ho', hall⟩ := mem_ready.1 hr
      have : o' = o := Option.some.inj (ho'.symm.trans ho)
      subst this
      have := hall e he hb
      rw [hj] at this; cases this
    · cases hl : listed.getD t false with
      | false => rfl
      | true =>
        have := inv t o ho hl e he hb
        rw [hj] at this; cases this
  induction h with
  | one h => exact key h (getD_both hi)
  | far h _ ih => exact key h ih.2
structure BlkInv (ops : Array Oper) (H : List Nat) (listed : Array Bool) : Prop where
  closed : Closed ops listed
  out : ∀ t, t < ops.size → t ∉ H → listed.getD t false = false → ∀ i ∈ H, Behind ops i t
theorem BlkInv.ready {H : List Nat} {listed : Array Bool} (inv : BlkInv ops H listed) {i : Nat} (hiH : i ∈ H) (hi : listed.getD i true = false) : ∀ t ∈ Region.ready .any ops listed, t ∈ H := by
  intro t ht
  refine Classical.byContradiction fun hn => ?_
  obtain ⟨hun, o, ho, _⟩ := mem_ready.1 ht
  exact (Behind.waits inv.closed hi (inv.out t (Array.getElem?_eq_some_iff.1 ho).1 hn (getD_both hun) i hiH)).1 ht
theorem BlkInv.set {H : List Nat} {listed : Array Bool} (inv : BlkInv ops H listed) {i : Nat} (hiH : i ∈ H) (hi : i ∈ Region.ready .any ops listed) : BlkInv ops H (listed.setIfInBounds i true) := by
  refine ⟨inv.closed.set hi, fun t ht hn hun => inv.out t ht hn ?_⟩
  rwa [getD_set_ne false (by rintro rfl; exact hn hiH)] at hun
end
end Go.Bul
