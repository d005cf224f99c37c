/- Operations on the heap of blocks and things, as laws of the walk. Types of trees: sizes, zero values; nodes. The laws of the walk. Texts out of bytes; hexadecimal. No program. -/
import Derived.Test.YtbbdnlcjjcmllaaDoorVf
import Derived.Test.YtbbdnlcjjcmllaaDoorVa
import Derived.Test.YtbbdnlcjjcmllaaDoorProg
import Derived.Tactics2
import Derived.WalkSpells
import Derived.WalkKit
import Derived.LoopTactic
import Derived.Laws.BytesArg
import Derived.Laws.Strings
import Derived.Laws.StructEq
namespace Go.Thg
open Go Go.RowKit Go.Bul
/-- So many zeros. -/
def zeros (n : Nat) : List Nat := List.replicate n 0
@[simp] theorem zeros_length (n : Nat) : (zeros n).length = n := List.length_replicate
/-! ### Operations -/
/-! Which operation comes next (for the walk's arms). -/
section
variable {P : Program} {w : World} {ops : Array Oper} {rest : List Oper} {a : Act} {Q : Exit → Act → World → Prop} {dst : Option Tmp} {type : TypeId} {pos : String} {after : Array Edge}
theorem at_load {t : TypeId} {x : Operand} (h : wpList P ops Q (⟨dst, .load t x, type, pos, after, none⟩ :: rest) a w) : wpList P ops Q (⟨dst, .load t x, type, pos, after, none⟩ :: rest) a w := h
theorem at_store {t : TypeId} {x y : Operand} (h : wpList P ops Q (⟨dst, .store t x y, type, pos, after, none⟩ :: rest) a w) : wpList P ops Q (⟨dst, .store t x y, type, pos, after, none⟩ :: rest) a w := h
theorem at_alloc {t : TypeId} (h : wpList P ops Q (⟨dst, .alloc t, type, pos, after, none⟩ :: rest) a w) : wpList P ops Q (⟨dst, .alloc t, type, pos, after, none⟩ :: rest) a w := h
theorem at_box {t : TypeId} {x : Operand} (h : wpList P ops Q (⟨dst, .box t x, type, pos, after, none⟩ :: rest) a w) : wpList P ops Q (⟨dst, .box t x, type, pos, after, none⟩ :: rest) a w := h
theorem at_build {t : TypeId} {ps : Array (Nat × Operand)} (h : wpList P ops Q (⟨dst, .build t ps, type, pos, after, none⟩ :: rest) a w) : wpList P ops Q (⟨dst, .build t ps, type, pos, after, none⟩ :: rest) a w := h
theorem at_append {xs : Array Operand} {ts : Array TypeId} (h : wpList P ops Q (⟨dst, .call { callee := .builtin .append, args := xs, argTypes := ts }, type, pos, after, none⟩ :: rest) a w) : wpList P ops Q (⟨dst, .call { callee := .builtin .append, args := xs, argTypes := ts }, type, pos, after, none⟩ :: rest) a w := h
end
theorem at_load_g {P : Program} {w : World} {ops : Array Oper} {rest : List Oper} {a : Act} {Q : Exit → Act → World → Prop} {dst : Option Tmp} {type : TypeId} {pos : String} {after : Array Edge} {t : TypeId} {x : Operand} {g : Nat × Bool}
    (hw : Region.wanted ⟨dst, .load t x, type, pos, after, some g⟩ (yielded ops a.tmps) = true) (h : wpList P ops Q (⟨dst, .load t x, type, pos, after, none⟩ :: rest) a w) : wpList P ops Q (⟨dst, .load t x, type, pos, after, some g⟩ :: rest) a w := by
  unfold wpList at h ⊢
  rw [if_pos hw]
  rw [if_pos (by simp [Region.wanted])] at h
  exact h
theorem at_calls {P : Program} {f : FuncId} {args : Array Value} {w : World} {X : Ending → World → Prop} (h : Calls P f args w X) : Calls P f args w X := h
/-- The number with an index; a word of its own, so that the walk leaves it as it is. -/
def nth (l : List Nat) (i : Nat) : Nat := l.getD i 0
/-- A type of several cells; a type of one cell. -/
structure RowTy (P : Program) (ty : TypeId) (n : Nat) : Prop where
  ex : ∃ d, P.underlying ty = some d ∧ isRow d = true ∧ (P.info? ty).map (·.size) = some n
structure OneTy (P : Program) (ty : TypeId) : Prop where
  ex : ∃ d, P.underlying ty = some d ∧ isRow d = false ∧ (P.info? ty).map (·.size) = some 1
section
variable {P : Program} {w w0 : World} {G : List Nat} {L : List Ent} {R : List Thing} {ops : Array Oper} {rest : List Oper} {o : Oper} {a : Act} {Q : Exit → Act → World → Prop}
theorem run_load_one {ty : TypeId} (hty : OneTy P ty) {g i : Nat} {t : TypeId} {cs : Array Value} {v : Value} (hB : Blk w g t cs) (hv : cs[i]? = some v) : (loadVar ty ⟨g, i, none⟩).run P w = .ok v w := by
  obtain ⟨d, hu, hd, _⟩ := hty.ex
  have hc := hB.cell i
  rw [hv] at hc
  simp [loadVar, Sem.run_bind, run_isAgg_no hu hd, hc]
theorem run_store_one {ty : TypeId} (hty : OneTy P ty) {g i : Nat} {t : TypeId} {cs : Array Value} {v : Value} (hB : Blk w g t cs) (hi : i < cs.size) (h1 : v.oneCell' = true) :
    (storeVar ty ⟨g, i, none⟩ v).run P w = .ok () (w.setRow g (cs.setIfInBounds i v)) := by
  obtain ⟨d, hu, hd, hs⟩ := hty.ex
  have hc : v.cells = #[v] := by cases v <;> simp_all [Value.cells, Value.oneCell']
  have := run_storeCells_at P g i t [v] 0 cs w hB (by simp; omega) (by simpa using h1)
  simp only [Nat.add_zero] at this
  simp only [storeVar, hc, Sem.run_bind, Go.Bul.run_sizeOf hs, Result.andThen_ok, List.size_toArray, List.length_cons, List.length_nil, ne_eq, not_true_eq_false, if_false, this]
  congr 2
  apply Array.ext'
  simp [List.set_eq_take_append_cons_drop, hi]
theorem wpList_mem_load (hM : Mem G w0 L R w) (hgd : o.guard = none) (ty : TypeId) (x : Operand) (ho : o.op = .load ty x) (g : Nat) (hx : a.eval x = .pointer (some ⟨g, 0, none⟩))
    (t : TypeId) (n : Nat) (cs : Array Value) (hL : ⟨g, t, n, cs⟩ ∈ L) (hty : RowTy P ty n) (h : wpList P ops Q rest (a.put o.dst (.agg cs)) w) : wpList P ops Q (o :: rest) a w := by
  obtain ⟨d, hu, hd, hi⟩ := hty.ex
  exact wpList_load_blk hgd ty x ho g hx t cs n d (hM.blk hL) hu hd hi (hM.size hL) h
theorem wpList_mem_part (hM : Mem G w0 L R w) (hgd : o.guard = none) (ty : TypeId) (x : Operand) (ho : o.op = .load ty x) (g off : Nat) (hx : a.eval x = .pointer (some ⟨g, off, none⟩))
    (t : TypeId) (n : Nat) (cs : Array Value) (hL : ⟨g, t, n, cs⟩ ∈ L) (m : Nat) (hty : RowTy P ty m) (hm : off + m ≤ n) (X : Array Value) (hX : cs.extract off (off + m) = X)
    (h : wpList P ops Q rest (a.put o.dst (.agg X)) w) : wpList P ops Q (o :: rest) a w := by
  obtain ⟨d, hu, hd, hi⟩ := hty.ex
  exact wpList_load_part hgd ty x ho g off hx t cs m d (hM.blk hL) hu hd hi (by have := hM.size hL; omega) X hX h
theorem wpList_mem_cell (hM : Mem G w0 L R w) (hgd : o.guard = none) (ty : TypeId) (x : Operand) (ho : o.op = .load ty x) (g i : Nat) (hx : a.eval x = .pointer (some ⟨g, i, none⟩))
    (t : TypeId) (n : Nat) (cs : Array Value) (hL : ⟨g, t, n, cs⟩ ∈ L) (hty : OneTy P ty) (v : Value) (hv : cs[i]? = some v)
    (h : wpList P ops Q rest (a.put o.dst v) w) : wpList P ops Q (o :: rest) a w :=
  wpList_plain hgd fun K hK => by
    unfold Oper.wp execOp
    simp only [ho, hx, Instr.loadAt, Instr.sureAddr, Sem.run_bind, Sem.run_pure, Result.andThen_ok, run_load_one hty (hM.blk hL) hv]
    exact hK _ _ h
/-- A number out of a block of numbers. -/
theorem wpList_mem_num (hM : Mem G w0 L R w) (hgd : o.guard = none) (ty : TypeId) (x : Operand) (ho : o.op = .load ty x) (g i : Nat) (hx : a.eval x = .pointer (some ⟨g, i, none⟩))
    (t : TypeId) (n : Nat) (k : IntKind) (l : List Nat) (hL : ⟨g, t, n, cellsOf k l⟩ ∈ L) (hty : OneTy P ty) (hi : i < n)
    (h : wpList P ops Q rest (a.put o.dst (.int k (nth l i : Nat))) w) : wpList P ops Q (o :: rest) a w :=
  wpList_mem_cell hM hgd ty x ho g i hx t n _ hL hty _ (cellsOf_get k l i (by have := hM.size hL; simp at this; omega)) h
theorem wpList_mem_store (hM : Mem G w0 L R w) (hgd : o.guard = none) (ty : TypeId) (x y : Operand) (ho : o.op = .store ty x y) (g : Nat) (hx : a.eval x = .pointer (some ⟨g, 0, none⟩))
    (vs : Array Value) (hy : a.eval y = .agg vs) (t : TypeId) (n : Nat) (cs : Array Value) (F : Array Value → List Ent) (hL : UpdL g t n cs L F) (hty : RowTy P ty n) (hv : vs.size = n) (h1 : ∀ v ∈ vs.toList, v.oneCell' = true)
    (hdst : o.dst = none) (h : ∀ w', Mem G w0 (F vs) R w' → wpList P ops Q rest a w') : wpList P ops Q (o :: rest) a w := by
  obtain ⟨d, hu, hd, hi⟩ := hty.ex
  have hin : (⟨g, t, n, cs⟩ : Ent) ∈ L := by obtain ⟨A, B, rfl, _⟩ := hL; simp
  have hb := hM.blk hin
  exact wpList_store_blk hgd ty x y ho g hx vs hy t cs n hb hi hv (hM.size hin) h1 hdst fun w' hw' => h w' (hM.put hL (hw' ▸ (Only.refl g w).setRow vs) (hw' ▸ hb.row vs) hv)
theorem wpList_mem_store_part (hM : Mem G w0 L R w) (hgd : o.guard = none) (ty : TypeId) (x y : Operand) (ho : o.op = .store ty x y) (g off : Nat) (hx : a.eval x = .pointer (some ⟨g, off, none⟩))
    (vs : Array Value) (hy : a.eval y = .agg vs) (t : TypeId) (n : Nat) (cs : Array Value) (F : Array Value → List Ent) (hL : UpdL g t n cs L F) (m : Nat) (hty : RowTy P ty m) (hv : vs.size = m) (hm : off + m ≤ n) (h1 : ∀ v ∈ vs.toList, v.oneCell' = true)
    (hdst : o.dst = none) (X : Array Value) (hX : (splice cs.toList off vs.toList).toArray = X) (h : ∀ w', Mem G w0 (F X) R w' → wpList P ops Q rest a w') : wpList P ops Q (o :: rest) a w := by
  obtain ⟨d, hu, hd, hi⟩ := hty.ex
  have hin : (⟨g, t, n, cs⟩ : Ent) ∈ L := by obtain ⟨A, B, rfl, _⟩ := hL; simp
  have hb := hM.blk hin
  have hs := hM.size hin
  have hXs : X.size = n := by rw [← hX]; simp [splice]; omega
  exact wpList_store_part hgd ty x y ho g off hx vs hy t cs m hb hi hv (by omega) h1 hdst fun w' hw' => h w' (by rw [hX] at hw'; exact hM.put hL (hw' ▸ (Only.refl g w).setRow X) (hw' ▸ hb.row X) hXs)
theorem wpList_mem_set (hM : Mem G w0 L R w) (hgd : o.guard = none) (ty : TypeId) (x y : Operand) (ho : o.op = .store ty x y) (g i : Nat) (hx : a.eval x = .pointer (some ⟨g, i, none⟩))
    (v : Value) (hy : a.eval y = v) (t : TypeId) (n : Nat) (cs : Array Value) (F : Array Value → List Ent) (hL : UpdL g t n cs L F) (hty : OneTy P ty) (hi : i < n) (h1 : v.oneCell' = true)
    (hdst : o.dst = none) (h : ∀ w', Mem G w0 (F (cs.setIfInBounds i v)) R w' → wpList P ops Q rest a w') : wpList P ops Q (o :: rest) a w := by
  have hin : (⟨g, t, n, cs⟩ : Ent) ∈ L := by obtain ⟨A, B, rfl, _⟩ := hL; simp
  have hb := hM.blk hin
  have hs := hM.size hin
  have hic : i < cs.size := by omega
  have hrun := run_store_one (w := w) (v := v) hty hb hic h1
  refine wpList_plain hgd fun K hK => ?_
  unfold Oper.wp execOp
  simp only [ho, hx, hy, Instr.storeAt, Instr.sureAddr, Sem.run_bind, Sem.run_pure, Result.andThen_ok, hrun]
  show K (a.put o.dst undef) _
  rw [hdst]
  exact hK _ _ (h _ (hM.put hL ((Only.refl g w).setRow _) (hb.row _) (by simpa using hs)))
/-- A number into a block of numbers. -/
theorem wpList_mem_setnum (hM : Mem G w0 L R w) (hgd : o.guard = none) (ty : TypeId) (x y : Operand) (ho : o.op = .store ty x y) (g i : Nat) (hx : a.eval x = .pointer (some ⟨g, i, none⟩))
    (k : IntKind) (z : Int) (hy : a.eval y = .int k z) (t : TypeId) (n : Nat) (l : List Nat) (F : Array Value → List Ent) (hL : UpdL g t n (cellsOf k l) L F) (hty : OneTy P ty) (hi : i < n) (v : Nat) (hv : z = (v : Int))
    (hdst : o.dst = none) (h : ∀ w', Mem G w0 (F (cellsOf k (l.set i v))) R w' → wpList P ops Q rest a w') : wpList P ops Q (o :: rest) a w := by
  subst hv
  exact wpList_mem_set hM hgd ty x y ho g i hx _ hy t n _ F hL hty hi rfl hdst fun w' hw' => h w' (by rw [cellsOf_set] at hw'; exact hw')
theorem wpList_mem_alloc (hM : Mem G w0 L R w) (hgd : o.guard = none) (ty : TypeId) (ho : o.op = .alloc ty) (z : Value) (hz : (P.info? ty).map (·.zero) = some (some z)) (n : Nat) (hn : z.cells.size = n)
    (h : ∀ g w', Mem G w0 (⟨g, ty, n, z.cells⟩ :: L) R w' → wpList P ops Q rest (a.put o.dst (.pointer (some ⟨g, 0, none⟩))) w') : wpList P ops Q (o :: rest) a w :=
  wpList_alloc_zero hgd ty ho z hz (h _ _ (hM.alloc _ _ hn))
theorem wpList_mem_box (hM : Mem G w0 L R w) (hgd : o.guard = none) (ty : TypeId) (x : Operand) (ho : o.op = .box ty x) (cs : Array Value) (hx : a.eval x = .agg cs) (n : Nat) (_ : RowTy P ty n) (hn : cs.size = n)
    (h : ∀ g w', Mem G w0 (⟨g, ty, n, cs⟩ :: L) R w' → wpList P ops Q rest (a.put o.dst (.pointer (some ⟨g, 0, none⟩))) w') : wpList P ops Q (o :: rest) a w :=
  wpList_plain hgd fun K hK => by
    unfold Oper.wp execOp
    simp only [ho, hx, Instr.box, newVar, newRow, newObj, Sem.run_bind, Sem.run_pure, Value.cells]
    exact hK _ _ (h _ _ (hM.alloc cs ty hn))
/-- The zero value of a type, as cells. -/
structure ZeroTy (P : Program) (ty : TypeId) (n : Nat) (cs : Array Value) : Prop where
  ex : ∃ z, (P.info? ty).map (·.zero) = some (some z) ∧ z.cells = cs ∧ cs.size = n
theorem wpList_mem_zero (hM : Mem G w0 L R w) (hgd : o.guard = none) (ty : TypeId) (ho : o.op = .alloc ty) (n : Nat) (cs : Array Value) (hz : ZeroTy P ty n cs)
    (h : ∀ g w', Mem G w0 (⟨g, ty, n, cs⟩ :: L) R w' → wpList P ops Q rest (a.put o.dst (.pointer (some ⟨g, 0, none⟩))) w') : wpList P ops Q (o :: rest) a w := by
  obtain ⟨z, hzz, rfl, hn⟩ := hz.ex
  exact wpList_mem_alloc hM hgd ty ho z hzz n hn h
structure ArrTy (P : Program) (ty : TypeId) : Prop where
  ex : ∃ m e k, P.underlying ty = some (.array m e) ∧ (P.info? e).map (·.size) = some k
/-- The zero value of an array type, written 'T{}'. -/
theorem wpList_build_zero (hgd : o.guard = none) (ty : TypeId) (ho : o.op = .build ty #[]) (n : Nat) (cs : Array Value) (hz : ZeroTy P ty n cs) (hA : ArrTy P ty)
    (h : wpList P ops Q rest (a.put o.dst (.agg cs)) w) : wpList P ops Q (o :: rest) a w := by
  obtain ⟨z, hzz, rfl, _⟩ := hz.ex
  obtain ⟨m, e, k, hu, he⟩ := hA.ex
  refine wpList_plain hgd fun K hK => ?_
  cases hq : P.info? ty with
  | none => simp [hq] at hzz
  | some i =>
    have hz' : i.zero = some z := by simpa [hq] using hzz
    have hzr : (zeroValue ty).run P w = .ok z w := by simp [zeroValue, typeInfo, hq, hz']
    unfold Oper.wp execOp
    simp only [ho, Instr.build, Sem.run_bind, hzr, run_underlying hu, Result.andThen_ok, Go.Bul.run_sizeOf he, Array.map_empty, Instr.fill, Sem.run_pure]
    exact hK _ _ h
/-- A block that was laid anew gets into the list. -/
theorem wpList_mem_new (k : IntKind) (xs : List Nat) {cs : Array Value} {t : TypeId} (hM : Mem G w0 L R w) (hcs : cs = cellsOf k xs) {l : List Oper} (h : ∀ w', Mem G w0 (⟨w.heap.size, t, xs.length, cellsOf k xs⟩ :: L) R w' → wpList P ops Q l a w') : wpList P ops Q l a (w.alloc (.cells cs t)) :=
  h _ (by rw [hcs]; exact hM.alloc _ _ (by simp))
theorem results_mem_cell (hM : Mem G w0 L R w) {fn : Func} {p : Tmp} {ty : TypeId} (h : fn.results = #[.cell p ty]) {tmps : Array Value} {g : Nat} (hp : tmps.getD p undef = .pointer (some ⟨g, 0, none⟩)) {t : TypeId} {n : Nat} {cs : Array Value}
    (hL : ⟨g, t, n, cs⟩ ∈ L) (hty : RowTy P ty n) : (results fn tmps).run P w = .ok (.agg cs) w := by
  obtain ⟨d, hu, hd, hi⟩ := hty.ex
  exact results_cell_row h tmps w g t cs (0, 0) d hp (hM.blk hL) hu (by cases d <;> simp_all [isRow]) (by rw [hi, hM.size hL])
theorem results_mem_cell_tmp (hM : Mem G w0 L R w) {fn : Func} {p u : Tmp} {ty : TypeId} (h : fn.results = #[.cell p ty, .tmp u]) {tmps : Array Value} {g : Nat} (hp : tmps.getD p undef = .pointer (some ⟨g, 0, none⟩)) {t : TypeId} {n : Nat} {cs : Array Value}
    (hL : ⟨g, t, n, cs⟩ ∈ L) (hty : RowTy P ty n) {e : Value} (he : tmps.getD u undef = e) : (results fn tmps).run P w = .ok (.tuple #[.agg cs, e]) w := by
  obtain ⟨d, hu, hd, hi⟩ := hty.ex
  rw [results_cell_tmp h, hp, he]
  have hl := run_loadVar_row (P := P) w g t ty cs (0, 0) d (hM.blk hL) hu (by cases d <;> simp_all [isRow]) (by rw [hi, hM.size hL])
  simp [asAddr, hl]
/-! ### In a region whose order is drawn -/
section
variable {C : World → Prop}
theorem quietAt_mem_load (hM : Mem G w0 L R w) (ty : TypeId) (x : Operand) (ho : o.op = .load ty x) (g : Nat) (hx : a.eval x = .pointer (some ⟨g, 0, none⟩)) (t : TypeId) (n : Nat) (cs : Array Value) (hL : ⟨g, t, n, cs⟩ ∈ L) (hty : RowTy P ty n) :
    o.quietAt P a C w (.agg cs) := by
  obtain ⟨d, hu, hd, hi⟩ := hty.ex
  have hs := hM.size hL
  exact quietAt_load ty x ho g 0 hx t cs n d (hM.blk hL) hu hd hi (by omega) cs (by simp [← hs])
theorem quietAt_mem_part (hM : Mem G w0 L R w) (ty : TypeId) (x : Operand) (ho : o.op = .load ty x) (g off : Nat) (hx : a.eval x = .pointer (some ⟨g, off, none⟩)) (t : TypeId) (n : Nat) (cs : Array Value) (hL : ⟨g, t, n, cs⟩ ∈ L) (m : Nat) (hty : RowTy P ty m)
    (hm : off + m ≤ n) (X : Array Value) (hX : cs.extract off (off + m) = X) : o.quietAt P a C w (.agg X) := by
  obtain ⟨d, hu, hd, hi⟩ := hty.ex
  have hs := hM.size hL
  exact quietAt_load ty x ho g off hx t cs m d (hM.blk hL) hu hd hi (by omega) X hX
theorem quietAt_mem_cell (hM : Mem G w0 L R w) (ty : TypeId) (x : Operand) (ho : o.op = .load ty x) (g i : Nat) (hx : a.eval x = .pointer (some ⟨g, i, none⟩)) (t : TypeId) (n : Nat) (cs : Array Value) (hL : ⟨g, t, n, cs⟩ ∈ L) (hty : OneTy P ty) (v : Value) (hv : cs[i]? = some v) :
    o.quietAt P a C w v := by
  unfold Oper.quietAt execOp
  simp only [ho, hx, Instr.loadAt, Instr.sureAddr, Sem.run_bind, Sem.run_pure, Result.andThen_ok, run_load_one hty (hM.blk hL) hv]
  exact ⟨rfl, rfl⟩
theorem quietAt_mem_num (hM : Mem G w0 L R w) (ty : TypeId) (x : Operand) (ho : o.op = .load ty x) (g i : Nat) (hx : a.eval x = .pointer (some ⟨g, i, none⟩)) (t : TypeId) (n : Nat) (k : IntKind) (l : List Nat) (hL : ⟨g, t, n, cellsOf k l⟩ ∈ L) (hty : OneTy P ty) (hi : i < n) :
    o.quietAt P a C w (.int k (nth l i : Nat)) :=
  quietAt_mem_cell hM ty x ho g i hx t n _ hL hty _ (cellsOf_get k l i (by have := hM.size hL; simp at this; omega))
theorem quiet_mem_call {f : FuncId} {args : Array Value} {w' : World} {v : Value} (hM : Mem G w0 L R w') (h : Calls P f args w' fun e w'' => e = .returned v ∧ Below w'.heap.size w' w'') :
    Calls P f args w' fun e w'' => e = .returned v ∧ Mem G w0 L R w'' := h.mono fun _ _ ⟨he, hb⟩ => ⟨he, hM.step hb⟩
theorem quiet_mem_call_same {f : FuncId} {args : Array Value} {w' : World} {v : Value} (hM : Mem G w0 L R w') (h : Calls P f args w' fun e w'' => e = .returned v ∧ w' = w'') :
    Calls P f args w' fun e w'' => e = .returned v ∧ Mem G w0 L R w'' := h.mono fun _ _ ⟨he, hb⟩ => ⟨he, hb ▸ hM⟩
theorem quiet_unwanted {K : Act → Prop} (hg : Region.wanted o (yielded ops a.tmps) = false) (h : K (a.put o.dst undef)) : if Region.wanted o (yielded ops a.tmps) then o.quiet P a C K else K (a.put o.dst undef) := by
  rw [if_neg (by simp [hg])]
  exact h
end
end
theorem quiet_wanted {P : Program} {ops : Array Oper} {C : World → Prop} {o : Oper} {a : Act} {K : Act → Prop} (hg : Region.wanted o (yielded ops a.tmps) = true)
    (h : ∃ v, (∀ w, C w → o.quietAt P a C w v) ∧ K (a.put o.dst v)) : if Region.wanted o (yielded ops a.tmps) then o.quiet P a C K else K (a.put o.dst undef) := by
  rw [if_pos hg]
  exact h
end Go.Thg
namespace Go.Thg
open Go Go.RowKit Go.Bul
theorem wpList_mem_set_to {P : Program} {w w0 : World} {G : List Nat} {L : List Ent} {R : List Thing} {ops : Array Oper} {rest : List Oper} {o : Oper} {a : Act} {Q : Exit → Act → World → Prop}
    (hM : Mem G w0 L R w) (hgd : o.guard = none) (ty : TypeId) (x y : Operand) (ho : o.op = .store ty x y) (g i : Nat) (hx : a.eval x = .pointer (some ⟨g, i, none⟩))
    (v : Value) (hy : a.eval y = v) (t : TypeId) (n : Nat) (cs : Array Value) (F : Array Value → List Ent) (hL : UpdL g t n cs L F) (hty : OneTy P ty) (hi : i < n) (h1 : v.oneCell' = true)
    (hdst : o.dst = none) (X : Array Value) (hX : cs.setIfInBounds i v = X) (h : ∀ w', Mem G w0 (F X) R w' → wpList P ops Q rest a w') : wpList P ops Q (o :: rest) a w := by
  subst hX
  exact wpList_mem_set hM hgd ty x y ho g i hx v hy t n cs F hL hty hi h1 hdst h
/-- What a slice reads as: n elements of so many cells. -/
def Reads (w : World) (size : Nat) (A : Option Addr) (n : Nat) (xs : List Value) : Prop :=
  xs.length = n * size ∧ (0 < n → ∃ g off, A = some ⟨g, off, none⟩ ∧ g < w.heap.size ∧ ∀ j u, xs[j]? = some u → w.cell? ⟨g, off + j, none⟩ = some u)
theorem Reads.keep {w w' : World} {size : Nat} {A : Option Addr} {n : Nat} {xs : List Value} (h : Reads w size A n xs) (hb : Below w.heap.size w w') : Reads w' size A n xs :=
  ⟨h.1, fun hn => by
    obtain ⟨g, off, h1, h2, h3⟩ := h.2 hn
    exact ⟨g, off, h1, Nat.lt_of_lt_of_le h2 hb.size, fun j u hu => (hb.cell (p := ⟨g, off + j, none⟩) h2).trans (h3 j u hu)⟩⟩
theorem OffRow.reads {w : World} {e : TypeId} {size : Nat} {A : Option Addr} {n c : Nat} {xs : List Value} (h : OffRow w e size (.slice A n c) n xs) : Reads w size A n xs :=
  ⟨h.1, fun hn => by
    obtain ⟨g, off, h1, h2, h3, _⟩ := h.cells hn
    exact ⟨g, off, h1, h2, h3⟩⟩
theorem Reads.nil (w : World) (size : Nat) (A : Option Addr) : Reads w size A 0 [] := ⟨by simp, fun h => by omega⟩
theorem Reads.src {P : Program} {w : World} {size : Nat} {A : Option Addr} {n c : Nat} {xs : List Value} {tx e' : TypeId} (h : Reads w size A n xs) (hk : P.underlying tx = some (.slice e')) (h1 : ∀ u ∈ xs, u.oneCell' = true) : Src P size tx (.slice A n c) n xs w := by
  rcases Nat.eq_zero_or_pos n with hn | hn
  · subst hn
    have hx : xs = [] := List.eq_nil_of_length_eq_zero (by simpa using h.1)
    subst hx
    cases A with
    | none => exact Src.ofNil w hk c
    | some a => exact Src.ofSlice w hk a 0 c [] (by simp) (by simp) h1
  · obtain ⟨g, off, rfl, _, h2⟩ := h.2 hn
    exact Src.ofSlice w hk _ n c xs h.1 (fun j u hu => by rw [addr_at]; exact h2 j u hu) h1
/-- A cell that is known, wherever. -/
theorem run_one_load {P : Program} {w : World} {ty : TypeId} (hty : OneTy P ty) {g off : Nat} {v : Value} (hc : w.cell? ⟨g, off, none⟩ = some v) : (loadVar ty ⟨g, off, none⟩).run P w = .ok v w := by
  obtain ⟨d, hu, hd, _⟩ := hty.ex
  simp [loadVar, Sem.run_bind, run_isAgg_no hu hd, hc]
theorem wpList_one_load {P : Program} {w : World} {ops : Array Oper} {rest : List Oper} {o : Oper} {a : Act} {Q : Exit → Act → World → Prop} (hgd : o.guard = none) (ty : TypeId) (x : Operand) (ho : o.op = .load ty x) (g off : Nat) (hx : a.eval x = .pointer (some ⟨g, off, none⟩))
    (hty : OneTy P ty) (v : Value) (hc : w.cell? ⟨g, off, none⟩ = some v) (h : wpList P ops Q rest (a.put o.dst v) w) : wpList P ops Q (o :: rest) a w :=
  wpList_plain hgd fun K hK => by
    unfold Oper.wp execOp
    simp only [ho, hx, Instr.loadAt, Instr.sureAddr, Sem.run_bind, Sem.run_pure, Result.andThen_ok, run_one_load hty hc]
    exact hK _ _ h
theorem quietAt_one {P : Program} {C : World → Prop} {w : World} {o : Oper} {a : Act} (ty : TypeId) (x : Operand) (ho : o.op = .load ty x) (g off : Nat) (hx : a.eval x = .pointer (some ⟨g, off, none⟩)) (hty : OneTy P ty) (v : Value) (hc : w.cell? ⟨g, off, none⟩ = some v) :
    o.quietAt P a C w v := by
  unfold Oper.quietAt execOp
  simp only [ho, hx, Instr.loadAt, Instr.sureAddr, Sem.run_bind, Sem.run_pure, Result.andThen_ok, run_one_load hty hc]
  exact ⟨rfl, rfl⟩
/-- A struct read through a slice: one of its elements. -/
theorem wpList_reads_load {P : Program} {w : World} {ops : Array Oper} {rest : List Oper} {o : Oper} {a : Act} {Q : Exit → Act → World → Prop} (hgd : o.guard = none) (ty : TypeId) (x : Operand) (ho : o.op = .load ty x) (g off : Nat) (hx : a.eval x = .pointer (some ⟨g, off, none⟩))
    (m : Nat) (hty : RowTy P ty m) (X : Array Value) (hm : X.size = m) (hX : ∀ j u, X[j]? = some u → w.cell? ⟨g, off + j, none⟩ = some u) (h : wpList P ops Q rest (a.put o.dst (.agg X)) w) : wpList P ops Q (o :: rest) a w := by
  obtain ⟨d, hu, hd, hi⟩ := hty.ex
  refine wpList_plain hgd fun K hK => ?_
  have hl : (loadCells ⟨g, off, none⟩ X.toList.length).run P w = .ok X.toList.toArray w :=
    run_loadCells_list (P := P) w ⟨g, off, none⟩ X.toList (fun j u hu => by rw [addr_at]; exact hX j u (by simpa using hu))
  rw [Array.length_toList, hm] at hl
  simp only [Array.toArray_toList] at hl
  have hrun : (loadVar ty ⟨g, off, none⟩).run P w = .ok (.agg X) w := by simp [loadVar, Sem.run_bind, run_isAgg hu hd, Go.Bul.run_sizeOf hi, hl]
  unfold Oper.wp execOp
  simp only [ho, hx, Instr.loadAt, Instr.sureAddr, Sem.run_bind, Sem.run_pure, Result.andThen_ok, hrun]
  exact hK _ _ h
end Go.Thg
namespace Go.Lin
open Go Go.Bul
/-- A node: 16 bytes. -/
structure Nd where
  val : List Nat
  len : val.length = 16
  byt : Bytes val
theorem Nd.ext' {a b : Nd} (h : a.val = b.val) : a = b := by
  obtain ⟨x, _, _⟩ := a
  obtain ⟨y, _, _⟩ := b
  subst h
  rfl
instance : DecidableEq Nd := fun a b => if h : a.val = b.val then .isTrue (Nd.ext' h) else .isFalse fun e => h (by rw [e])
abbrev ndC (x : Nd) : Array Value := cellsOf .u8 x.val
theorem ndC_size (x : Nd) : (ndC x).size = 16 := by rw [cellsOf_size, x.len]
abbrev ndC2 (x y : Nd) : Array Value := cellsOf .u8 (x.val ++ y.val)
theorem ndC2_size (x y : Nd) : (ndC2 x y).size = 32 := by rw [cellsOf_size, List.length_append, x.len, y.len]
def nd0 : Nd := ⟨Go.Thg.zeros 16, rfl, by intro x hx; have := List.eq_of_mem_replicate hx; omega⟩
def halfN (l : List Nat) : Nd := ⟨half l, half_length l, bytes_half l⟩
theorem cellsOf_one (k : IntKind) (l : List Nat) : ∀ u ∈ (cellsOf k l).toList, u.oneCell' = true := fun u hu => vals_one k l u (by simpa [cellsOf] using hu)
end Go.Lin
namespace Go.Proofs.YtbbdnlcjjcmllaaDoor
open Go Go.RowKit Go.Bul Go.Thg Go.Lin
theorem row_nd : RowTy Tryd.prog 41 16 := ⟨⟨_, Tryd.underlying41, rfl, by kernel_rfl⟩⟩
theorem row_half : RowTy Tryd.prog 113 16 := ⟨⟨_, Tryd.underlying113, rfl, by kernel_rfl⟩⟩
theorem row_a32 : RowTy Tryd.prog 22 32 := ⟨⟨_, Tryd.underlying22, rfl, by kernel_rfl⟩⟩
theorem row_nd2 : RowTy Tryd.prog 42 32 := ⟨⟨_, Tryd.underlying42, rfl, by kernel_rfl⟩⟩
theorem row_two : RowTy Tryd.prog 44 65 := ⟨⟨_, Tryd.underlying44, rfl, by kernel_rfl⟩⟩
theorem one_int : OneTy Tryd.prog 3 := ⟨⟨_, Tryd.underlying3, rfl, by kernel_rfl⟩⟩
theorem one_bool : OneTy Tryd.prog 4 := ⟨⟨_, Tryd.underlying4, rfl, by kernel_rfl⟩⟩
theorem one_u8 : OneTy Tryd.prog 5 := ⟨⟨_, Tryd.underlying5, rfl, by kernel_rfl⟩⟩
theorem one_bytes : OneTy Tryd.prog 79 := ⟨⟨_, Tryd.underlying79, rfl, by kernel_rfl⟩⟩
theorem one_sN : OneTy Tryd.prog 69 := ⟨⟨_, Tryd.underlying69, rfl, by kernel_rfl⟩⟩
theorem one_ssN : OneTy Tryd.prog 124 := ⟨⟨_, Tryd.underlying124, rfl, by kernel_rfl⟩⟩
theorem one_errno : OneTy Tryd.prog 31 := ⟨⟨_, Tryd.underlying31, rfl, by kernel_rfl⟩⟩
theorem zero_nd : ZeroTy Tryd.prog 41 16 (ndC nd0) := ⟨⟨.agg _, by kernel_rfl, rfl, by rw [cellsOf_size]; rfl⟩⟩
theorem zero_hlf : ZeroTy Tryd.prog 113 16 (ndC nd0) := ⟨⟨.agg _, by kernel_rfl, rfl, by rw [cellsOf_size]; rfl⟩⟩
theorem zero_a32 : ZeroTy Tryd.prog 22 32 (cellsOf .u8 (zeros 32)) := ⟨⟨.agg _, by kernel_rfl, rfl, by rw [cellsOf_size]; rfl⟩⟩
theorem zero_nd2 : ZeroTy Tryd.prog 42 32 (ndC2 nd0 nd0) := ⟨⟨.agg _, by kernel_rfl, rfl, ndC2_size _ _⟩⟩
theorem zero_int : ZeroTy Tryd.prog 3 1 #[.int .i64 0] := ⟨⟨.int .i64 0, by kernel_rfl, rfl, rfl⟩⟩
theorem zero_two : ZeroTy Tryd.prog 44 65 (#[.int .i64 0] ++ cellsOf .u8 (zeros 64)) := ⟨⟨.agg _, by kernel_rfl, rfl, by rw [Array.size_append, cellsOf_size]; rfl⟩⟩
theorem info_byte : (Tryd.prog.info? 5).map (fun i => (i.zero, i.size, i.bytes)) = some (some (.int .u8 0), 1, 1) := by kernel_rfl
theorem info_nd : (Tryd.prog.info? 41).map (fun i => (i.zero, i.size, i.bytes)) = some (some (.agg (ndC nd0)), 16, 16) := by kernel_rfl
section
variable {w w0 : World} {G : List Nat} {L : List Ent} {R : List Thing} {ops : Array Oper} {rest : List Oper} {o : Oper} {a : Act} {Q : Exit → Act → World → Prop} {C : World → Prop} {ty : TypeId} {x y : Operand} {g i m n : Nat} {t : TypeId} {cs vs X : Array Value} {v : Value} {F : Array Value → List Ent}
/-! The laws of the walk, with all their conditions found by themselves. -/
theorem lc (hM : Mem G w0 L R w) (h : wpList Tryd.prog ops Q rest (a.put o.dst v) w) (hgd : o.guard = none := by rfl) (ho : o.op = .load ty x := by rfl) (hx : a.eval x = .pointer (some ⟨g, i, none⟩) := by rfl) (hL : ⟨g, t, n, cs⟩ ∈ L := by repeat (first | exact List.Mem.head _ | apply List.Mem.tail)) (hty : OneTy Tryd.prog ty := by first | exact one_int | exact one_bool | exact one_u8 | exact one_bytes | exact one_sN | exact one_sRN | exact one_ssN | exact one_errno) (hv : cs[i]? = some v := by rfl) : wpList Tryd.prog ops Q (o :: rest) a w :=
  wpList_mem_cell hM hgd ty x ho g i hx t n cs hL hty v hv h
theorem ll (hM : Mem G w0 L R w) (h : wpList Tryd.prog ops Q rest (a.put o.dst (.agg cs)) w) (hgd : o.guard = none := by rfl) (ho : o.op = .load ty x := by rfl) (hx : a.eval x = .pointer (some ⟨g, 0, none⟩) := by rfl) (hL : ⟨g, t, n, cs⟩ ∈ L := by repeat (first | exact List.Mem.head _ | apply List.Mem.tail)) (hty : RowTy Tryd.prog ty n := by first | exact row_nd | exact row_n | exact row_half | exact row_a32 | exact row_nd2 | exact row_n2 | exact row_two | exact row_claim | exact row_bld | exact row_bnds) : wpList Tryd.prog ops Q (o :: rest) a w :=
  wpList_mem_load hM hgd ty x ho g hx t n cs hL hty h
theorem lp (hM : Mem G w0 L R w) (h : wpList Tryd.prog ops Q rest (a.put o.dst (.agg X)) w) (hgd : o.guard = none := by rfl) (ho : o.op = .load ty x := by rfl) (hx : a.eval x = .pointer (some ⟨g, i, none⟩) := by rfl) (hL : ⟨g, t, n, cs⟩ ∈ L := by repeat (first | exact List.Mem.head _ | apply List.Mem.tail)) (hty : RowTy Tryd.prog ty m := by first | exact row_nd | exact row_n | exact row_half | exact row_a32 | exact row_nd2 | exact row_n2 | exact row_two | exact row_claim | exact row_bld | exact row_bnds) (hm : i + m ≤ n := by omega) (hX : cs.extract i (i + m) = X := by rfl) : wpList Tryd.prog ops Q (o :: rest) a w :=
  wpList_mem_part hM hgd ty x ho g i hx t n cs hL m hty hm X hX h
theorem ls (hM : Mem G w0 L R w) (h : ∀ w', Mem G w0 (F X) R w' → wpList Tryd.prog ops Q rest a w') (hgd : o.guard = none := by rfl) (ho : o.op = .store ty x y := by rfl) (hx : a.eval x = .pointer (some ⟨g, i, none⟩) := by rfl) (hy : a.eval y = v := by rfl) (hL : UpdL g t n cs L F := by repeat (first | exact UpdL.head _ _ _ _ _ | apply UpdL.tail)) (hty : OneTy Tryd.prog ty := by first | exact one_int | exact one_bool | exact one_u8 | exact one_bytes | exact one_sN | exact one_sRN | exact one_ssN | exact one_errno) (hi : i < n := by omega) (h1 : v.oneCell' = true := by rfl) (hdst : o.dst = none := by rfl) (hX : cs.setIfInBounds i v = X := by rfl) : wpList Tryd.prog ops Q (o :: rest) a w :=
  wpList_mem_set_to hM hgd ty x y ho g i hx v hy t n cs F hL hty hi h1 hdst X hX h
theorem lw (hM : Mem G w0 L R w) (h : ∀ w', Mem G w0 (F vs) R w' → wpList Tryd.prog ops Q rest a w') (hgd : o.guard = none := by rfl) (ho : o.op = .store ty x y := by rfl) (hx : a.eval x = .pointer (some ⟨g, 0, none⟩) := by rfl) (hy : a.eval y = .agg vs := by rfl) (hL : UpdL g t n cs L F := by repeat (first | exact UpdL.head _ _ _ _ _ | apply UpdL.tail)) (hty : RowTy Tryd.prog ty n := by first | exact row_nd | exact row_n | exact row_half | exact row_a32 | exact row_nd2 | exact row_n2 | exact row_two | exact row_claim | exact row_bld | exact row_bnds) (hs : vs.size = n := by first | with_reducible exact ndC_size _ | with_reducible exact ndC2_size _ _ | exact ndC_size _ | rfl | (simp; done)) (h1 : ∀ v ∈ vs.toList, v.oneCell' = true := by first | with_reducible exact cellsOf_one _ _ | exact cellsOf_one _ _ | exact vals_one _ _ | (simp [Value.oneCell']; done)) (hdst : o.dst = none := by rfl) : wpList Tryd.prog ops Q (o :: rest) a w :=
  wpList_mem_store hM hgd ty x y ho g hx vs hy t n cs F hL hty hs h1 hdst h
theorem lt (hM : Mem G w0 L R w) (h : ∀ w', Mem G w0 (F X) R w' → wpList Tryd.prog ops Q rest a w') (hgd : o.guard = none := by rfl) (ho : o.op = .store ty x y := by rfl) (hx : a.eval x = .pointer (some ⟨g, i, none⟩) := by rfl) (hy : a.eval y = .agg vs := by rfl) (hL : UpdL g t n cs L F := by repeat (first | exact UpdL.head _ _ _ _ _ | apply UpdL.tail)) (hty : RowTy Tryd.prog ty m := by first | exact row_nd | exact row_n | exact row_half | exact row_a32 | exact row_nd2 | exact row_n2 | exact row_two | exact row_claim | exact row_bld | exact row_bnds) (hs : vs.size = m := by first | with_reducible exact ndC_size _ | with_reducible exact ndC2_size _ _ | exact ndC_size _ | rfl | (simp; done)) (hm : i + m ≤ n := by omega) (h1 : ∀ v ∈ vs.toList, v.oneCell' = true := by first | with_reducible exact cellsOf_one _ _ | exact cellsOf_one _ _ | exact vals_one _ _ | (simp [Value.oneCell']; done)) (hdst : o.dst = none := by rfl) (hX : (splice cs.toList i vs.toList).toArray = X := by rfl) : wpList Tryd.prog ops Q (o :: rest) a w :=
  wpList_mem_store_part hM hgd ty x y ho g i hx vs hy t n cs F hL m hty hs hm h1 hdst X hX h
theorem lz (hM : Mem G w0 L R w) (h : ∀ g w', Mem G w0 (⟨g, ty, n, cs⟩ :: L) R w' → wpList Tryd.prog ops Q rest (a.put o.dst (.pointer (some ⟨g, 0, none⟩))) w') (hgd : o.guard = none := by rfl) (ho : o.op = .alloc ty := by rfl) (hz : ZeroTy Tryd.prog ty n cs := by first | exact zero_nd | exact zero_n | exact zero_hlf | exact zero_a32 | exact zero_nd2 | exact zero_n2 | exact zero_int | exact zero_two | exact zero_bld) : wpList Tryd.prog ops Q (o :: rest) a w :=
  wpList_mem_zero hM hgd ty ho n cs hz h
theorem lb (hM : Mem G w0 L R w) (h : ∀ g w', Mem G w0 (⟨g, ty, n, cs⟩ :: L) R w' → wpList Tryd.prog ops Q rest (a.put o.dst (.pointer (some ⟨g, 0, none⟩))) w') (hgd : o.guard = none := by rfl) (ho : o.op = .box ty x := by rfl) (hx : a.eval x = .agg cs := by rfl) (hty : RowTy Tryd.prog ty n := by first | exact row_nd | exact row_n | exact row_half | exact row_a32 | exact row_nd2 | exact row_n2 | exact row_two | exact row_claim | exact row_bld | exact row_bnds) (hn : cs.size = n := by first | with_reducible exact ndC_size _ | with_reducible exact ndC2_size _ _ | exact ndC_size _ | rfl | (simp; done)) : wpList Tryd.prog ops Q (o :: rest) a w :=
  wpList_mem_box hM hgd ty x ho cs hx n hty hn h
theorem qc (hM : Mem G w0 L R w) (ho : o.op = .load ty x := by rfl) (hx : a.eval x = .pointer (some ⟨g, i, none⟩) := by rfl) (hL : ⟨g, t, n, cs⟩ ∈ L := by repeat (first | exact List.Mem.head _ | apply List.Mem.tail)) (hty : OneTy Tryd.prog ty := by first | exact one_int | exact one_bool | exact one_u8 | exact one_bytes | exact one_sN | exact one_sRN | exact one_ssN | exact one_errno) (hv : cs[i]? = some v := by rfl) : o.quietAt Tryd.prog a C w v :=
  quietAt_mem_cell hM ty x ho g i hx t n cs hL hty v hv
theorem ql (hM : Mem G w0 L R w) (ho : o.op = .load ty x := by rfl) (hx : a.eval x = .pointer (some ⟨g, 0, none⟩) := by rfl) (hL : ⟨g, t, n, cs⟩ ∈ L := by repeat (first | exact List.Mem.head _ | apply List.Mem.tail)) (hty : RowTy Tryd.prog ty n := by first | exact row_nd | exact row_n | exact row_half | exact row_a32 | exact row_nd2 | exact row_n2 | exact row_two | exact row_claim | exact row_bld | exact row_bnds) : o.quietAt Tryd.prog a C w (.agg cs) :=
  quietAt_mem_load hM ty x ho g hx t n cs hL hty
theorem qp (hM : Mem G w0 L R w) (ho : o.op = .load ty x := by rfl) (hx : a.eval x = .pointer (some ⟨g, i, none⟩) := by rfl) (hL : ⟨g, t, n, cs⟩ ∈ L := by repeat (first | exact List.Mem.head _ | apply List.Mem.tail)) (hty : RowTy Tryd.prog ty m := by first | exact row_nd | exact row_n | exact row_half | exact row_a32 | exact row_nd2 | exact row_n2 | exact row_two | exact row_claim | exact row_bld | exact row_bnds) (hm : i + m ≤ n := by omega) (hX : cs.extract i (i + m) = X := by rfl) : o.quietAt Tryd.prog a C w (.agg X) :=
  quietAt_mem_part hM ty x ho g i hx t n cs hL m hty hm X hX
/-- A struct read through a slice; a cell of it. -/
theorem lr (hX : ∀ j u, X[j]? = some u → w.cell? ⟨g, i + j, none⟩ = some u) (h : wpList Tryd.prog ops Q rest (a.put o.dst (.agg X)) w) (hgd : o.guard = none := by rfl) (ho : o.op = .load ty x := by rfl) (hx : a.eval x = .pointer (some ⟨g, i, none⟩) := by rfl) (hty : RowTy Tryd.prog ty m := by first | exact row_nd | exact row_n | exact row_half | exact row_a32 | exact row_nd2 | exact row_n2 | exact row_two | exact row_claim | exact row_bld | exact row_bnds) (hs : X.size = m := by first | with_reducible exact ndC_size _ | with_reducible exact ndC2_size _ _ | exact ndC_size _ | rfl | (simp; done)) : wpList Tryd.prog ops Q (o :: rest) a w :=
  wpList_reads_load hgd ty x ho g i hx m hty X hs hX h
theorem lo (hc : w.cell? ⟨g, i, none⟩ = some v) (h : wpList Tryd.prog ops Q rest (a.put o.dst v) w) (hgd : o.guard = none := by rfl) (ho : o.op = .load ty x := by rfl) (hx : a.eval x = .pointer (some ⟨g, i, none⟩) := by rfl) (hty : OneTy Tryd.prog ty := by first | exact one_int | exact one_bool | exact one_u8 | exact one_bytes | exact one_sN | exact one_sRN | exact one_ssN | exact one_errno) : wpList Tryd.prog ops Q (o :: rest) a w :=
  wpList_one_load hgd ty x ho g i hx hty v hc h
theorem qo (hc : w.cell? ⟨g, i, none⟩ = some v) (ho : o.op = .load ty x := by rfl) (hx : a.eval x = .pointer (some ⟨g, i, none⟩) := by rfl) (hty : OneTy Tryd.prog ty := by first | exact one_int | exact one_bool | exact one_u8 | exact one_bytes | exact one_sN | exact one_sRN | exact one_ssN | exact one_errno) : o.quietAt Tryd.prog a C w v :=
  quietAt_one ty x ho g i hx hty v hc
end
end Go.Proofs.YtbbdnlcjjcmllaaDoor
namespace Go.Bul
open Go
/-- the text of bytes -/
def bstr (l : List Nat) : ByteArray := ⟨(l.map UInt8.ofNat).toArray⟩
theorem bstr_size (l : List Nat) : (bstr l).size = l.length := by simp [bstr, ByteArray.size]
theorem bstr_nums (l : List Nat) : strOfNums (l.map fun (n : Nat) => (n : Int)) = bstr l := by
  simp [strOfNums, bstr]
theorem ofNat_inj {a b : Nat} (ha : a < 256) (hb : b < 256) (h : UInt8.ofNat a = UInt8.ofNat b) : a = b := by
  have := congrArg UInt8.toNat h
  simp [UInt8.toNat_ofNat'] at this
  omega
end Go.Bul
