/- Memory: a block that is known whole; rows of numbers; what a contract leaves. -/
import Derived.Test.YtpigmibaeoceaaaDoorZb
import Derived.Below
import Derived.Laws.OwnMore
import Derived.Laws.Rows
import Derived.Deep.Draws
import Derived.Lib.Hide
import Derived.OwnWalk
namespace Go.Bul
open Go Go.RowKit
/-- Numbers of one kind, as cells. -/
def vals (k : IntKind) (l : List Nat) : List Value := l.map fun (n : Nat) => Value.int k (n : Int)
def cellsOf (k : IntKind) (l : List Nat) : Array Value := (vals k l).toArray
@[simp] theorem vals_length (k : IntKind) (l : List Nat) : (vals k l).length = l.length := by simp [vals]
@[simp] theorem cellsOf_size (k : IntKind) (l : List Nat) : (cellsOf k l).size = l.length := by simp [cellsOf]
theorem vals_get (k : IntKind) (l : List Nat) (i : Nat) : (vals k l)[i]? = (l[i]?).map fun (n : Nat) => Value.int k (n : Int) := by simp [vals]
theorem cellsOf_get (k : IntKind) (l : List Nat) (i : Nat) (h : i < l.length) : (cellsOf k l)[i]? = some (.int k (l.getD i 0 : Nat)) := by
  simp [cellsOf, vals, h]
theorem cellsOf_set (k : IntKind) (l : List Nat) (i v : Nat) : (cellsOf k l).setIfInBounds i (.int k v) = cellsOf k (l.set i v) := by
  simp [cellsOf, vals, List.map_set]
theorem vals_one (k : IntKind) (l : List Nat) : ∀ u ∈ vals k l, u.oneCell' = true := by
  intro u hu
  obtain ⟨n, _, rfl⟩ := List.mem_map.1 hu
  rfl

/-- Block g is just these cells of element type t, none frozen. -/
def Blk (w : World) (g : Nat) (t : TypeId) (cs : Array Value) : Prop := w.heap[g]? = some (.cells cs t (0, 0))
section
variable {w w' : World} {g : Nat} {t : TypeId} {cs : Array Value}
theorem Blk.lt (h : Blk w g t cs) : g < w.heap.size := (Array.getElem?_eq_some_iff.1 h).1
theorem Blk.cell (h : Blk w g t cs) (i : Nat) : w.cell? ⟨g, i, none⟩ = cs[i]? := cell_of_row w g i cs t (0, 0) h
theorem Blk.free (h : Blk w g t cs) (i : Nat) : w.frozen? ⟨g, i, none⟩ = false := frozen_of_row w g i cs t h
theorem Blk.num {k : IntKind} {l : List Nat} (h : Blk w g t (cellsOf k l)) {i : Nat} (hi : i < l.length) : w.cell? ⟨g, i, none⟩ = some (.int k (l.getD i 0 : Nat)) := by
  rw [h.cell, cellsOf_get k l i hi]
theorem Blk.new (w : World) (t : TypeId) (cs : Array Value) : Blk (w.alloc (.cells cs t)) w.heap.size t cs := heap_alloc_new w _
theorem Blk.new' (w : World) (t : TypeId) (cs : Array Value) (n : Nat) (hn : n = w.heap.size) : Blk (w.alloc (.cells cs t)) n t cs := hn ▸ Blk.new w t cs
theorem Blk.drewN (h : Blk w g t cs) (n : Nat) : Blk (w.drewN n) g t cs := h
theorem Blk.drew (h : Blk w g t cs) : Blk w.drew g t cs := h
theorem Blk.alloc (h : Blk w g t cs) (o : Obj) : Blk (w.alloc o) g t cs := (Below.heap_alloc w o g h.lt).trans h
theorem Blk.set (h : Blk w g t cs) (i : Nat) (u : Value) : Blk (w.setCell ⟨g, i, none⟩ u) g t (cs.setIfInBounds i u) := heap_setCell_same w g i cs t u h
theorem Blk.far (h : Blk w g t cs) {p : Addr} (hp : g ≠ p.block) (u : Value) : Blk (w.setCell p u) g t cs := (Below.heap_setCell w p u g hp).trans h
theorem Blk.below {B : Nat} (h : Blk w g t cs) (hb : Below B w w') (hg : g < B) : Blk w' g t cs := (hb.block g hg).trans h
theorem Blk.kept (h : Blk w g t cs) (hb : Below w.heap.size w w') : Blk w' g t cs := h.below hb h.lt
end
/-- Only block g, and what is new, has turned. -/
def Only (g : Nat) (w w' : World) : Prop := w.grownBy w' (some g)
theorem Only.refl (g : Nat) (w : World) : Only g w w := World.grownBy.refl w _
theorem Only.trans {g : Nat} {a b c : World} (h : Only g a b) (k : Only g b c) : Only g a c :=
  ⟨k.os.trans h.os, k.tape.trans h.tape, k.output.trans h.output, Nat.le_trans h.size k.size, fun i hi hne => (k.block i (Nat.lt_of_lt_of_le hi h.size) hne).trans (h.block i hi hne)⟩
theorem Only.of_below {g : Nat} {w w' : World} (h : Below w.heap.size w w') : Only g w w' := ⟨h.os, h.tape, h.output, h.size, fun i hi _ => h.block i hi⟩
theorem Only.below {g : Nat} {a w w' : World} (h : Only g a w) (k : Below w.heap.size w w') : Only g a w' := h.trans (.of_below k)
theorem Only.setCell {g : Nat} {a w : World} (h : Only g a w) (i : Nat) (u : Value) : Only g a (w.setCell ⟨g, i, none⟩ u) :=
  h.trans ⟨rfl, rfl, rfl, by simp [World.setCell], fun i _ hne => Below.heap_setCell _ _ _ _ (by rintro rfl; exact hne rfl)⟩
theorem Only.setRow {g : Nat} {a w : World} (h : Only g a w) (X : Array Value) : Only g a (w.setRow g X) :=
  h.trans ⟨rfl, rfl, rfl, by simp [World.setRow], fun i _ hne => setRow_other _ _ _ _ (by rintro rfl; exact hne rfl)⟩
theorem Only.drew {g : Nat} {a w : World} (h : Only g a w) : Only g a w.drew := ⟨h.os, h.tape, h.output, h.size, h.block⟩
theorem Only.to_below' {g B : Nat} {a w : World} (h : Only g a w) (hg : B ≤ g) (hB : B ≤ a.heap.size) : Below B a w := ⟨h.os, h.tape, h.output, h.size, fun i hi => h.block i (by omega) (by rintro ⟨⟩; omega)⟩
theorem Blk.only {w w' : World} {g k : Nat} {t : TypeId} {cs : Array Value} (h : Blk w k t cs) (ho : Only g w w') (hne : k ≠ g) : Blk w' k t cs := (ho.block k h.lt (by rintro ⟨⟩; exact hne rfl)).trans h
/-- One operation of a quiet walk in a class of worlds: its value is one and the same in every world of the class. -/
theorem quiet_plain {P : Program} {ops : Array Oper} {C : World → Prop} {o : Oper} {a : Act} {K : Act → Prop} (hg : o.guard = none) (v : Value)
    (h1 : ∀ w, C w → o.quietAt P a C w v) (h2 : K (a.put o.dst v)) : if Region.wanted o (yielded ops a.tmps) then o.quiet P a C K else K (a.put o.dst undef) := by
  rw [if_pos (by simp [Region.wanted, hg])]
  exact ⟨v, h1, h2⟩
theorem quiet_some {P : Program} {ops : Array Oper} {C : World → Prop} {o : Oper} {a : Act} {K : Act → Prop} (hg : o.guard = none)
    (h : ∃ v, (∀ w, C w → o.quietAt P a C w v) ∧ K (a.put o.dst v)) : if Region.wanted o (yielded ops a.tmps) then o.quiet P a C K else K (a.put o.dst undef) :=
  let ⟨v, h1, h2⟩ := h
  quiet_plain hg v h1 h2
theorem Below.step {w w1 w2 : World} (h : Below w.heap.size w w1) (k : Below w1.heap.size w1 w2) : Below w.heap.size w w2 := h.trans (k.mono h.size)
/-- A contract that leaves old memory as it was, met in a class of worlds that do. -/
theorem quiet_call {P : Program} {f : FuncId} {args : Array Value} {w w' : World} {v : Value} (hw : Below w.heap.size w w')
    (h : Calls P f args w' fun e w'' => e = .returned v ∧ Below w'.heap.size w' w'') : Calls P f args w' fun e w'' => e = .returned v ∧ Below w.heap.size w w'' :=
  h.mono fun _ _ ⟨he, hb⟩ => ⟨he, Below.step hw hb⟩
theorem wp_named {P : Program} {c : Code} {Q : Exit → Act → World → Prop} {a : Act} {w : World} (h : ∀ w', w' = w → c.wp P Q a w') : c.wp P Q a w := h w rfl
/-- An element of an array of numbers that is a value. -/
theorem run_index_num {P : Program} {T e : TypeId} {k : IntKind} {n : Nat} {d : TypeDesc} (hT : P.underlying T = some (.array n e)) (hE : P.underlying e = some d) (hd : (match d with | .struct _ | .array _ _ => true | _ => false) = false)
    (hS : (P.info? e).map (·.size) = some 1) (l : List Nat) (i : Nat) (hl : l.length = n) (hi : i < n) (w : World) :
    (Instr.index T (.agg (cellsOf k l)) (.int .i64 (i : Nat))).run P w = .ok (.int k (l.getD i 0 : Nat)) w := by
  cases hq : P.info? e with
  | none => simp [hq] at hS
  | some j =>
    have hj : j.size = 1 := by simpa [hq] using hS
    have hg := cellsOf_get k l i (by omega)
    have ha : (isAgg e).run P w = .ok false w := by
      unfold isAgg
      rw [Sem.run_bind, run_underlying hE w]
      cases d <;> simp_all
    simp [Instr.index, asIntOf, run_underlying hT, sizeOf, typeInfo, hq, hj, part, Sem.run_bind, ha, hi, hg]
end Go.Bul
