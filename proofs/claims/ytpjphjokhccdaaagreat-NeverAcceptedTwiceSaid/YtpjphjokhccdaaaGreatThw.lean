/- Operations on the heap of blocks and things, as laws of the walk. -/
import Derived.Test.YtpjphjokhccdaaaGreatRow
namespace Go.Thg
open Go Go.RowKit Go.Bul
/-- So many zeros. -/
def zeros (n : Nat) : List Nat := List.replicate n 0
@[simp] theorem zeros_length (n : Nat) : (zeros n).length = n := List.length_replicate
/-! ### Operations -/
/-! Which operation comes next (for the walk's arms). -/
section
variable {P : Program} {w : World} {ops : Array Oper} {rest : List Oper} {a : Act} {Q : Exit → Act → World → Prop} {dst : Option Tmp} {type : TypeId} {pos : String} {after : Array Edge}
theorem at_load {t : TypeId} {x : Operand} (h : wpList P ops Q (⟨dst, .load t x, type, pos, after, none⟩ :: rest) a w) : wpList P ops Q (⟨dst, .load t x, type, pos, after, none⟩ :: rest) a w := h
theorem at_store {t : TypeId} {x y : Operand} (h : wpList P ops Q (⟨dst, .store t x y, type, pos, after, none⟩ :: rest) a w) : wpList P ops Q (⟨dst, .store t x y, type, pos, after, none⟩ :: rest) a w := h
theorem at_alloc {t : TypeId} (h : wpList P ops Q (⟨dst, .alloc t, type, pos, after, none⟩ :: rest) a w) : wpList P ops Q (⟨dst, .alloc t, type, pos, after, none⟩ :: rest) a w := h
theorem at_box {t : TypeId} {x : Operand} (h : wpList P ops Q (⟨dst, .box t x, type, pos, after, none⟩ :: rest) a w) : wpList P ops Q (⟨dst, .box t x, type, pos, after, none⟩ :: rest) a w := h
theorem at_build {t : TypeId} {ps : Array (Nat × Operand)} (h : wpList P ops Q (⟨dst, .build t ps, type, pos, after, none⟩ :: rest) a w) : wpList P ops Q (⟨dst, .build t ps, type, pos, after, none⟩ :: rest) a w := h
theorem at_append {xs : Array Operand} {ts : Array TypeId} (h : wpList P ops Q (⟨dst, .call { callee := .builtin .append, args := xs, argTypes := ts }, type, pos, after, none⟩ :: rest) a w) : wpList P ops Q (⟨dst, .call { callee := .builtin .append, args := xs, argTypes := ts }, type, pos, after, none⟩ :: rest) a w := h
end
theorem at_load_g {P : Program} {w : World} {ops : Array Oper} {rest : List Oper} {a : Act} {Q : Exit → Act → World → Prop} {dst : Option Tmp} {type : TypeId} {pos : String} {after : Array Edge} {t : TypeId} {x : Operand} {g : Nat × Bool}
    (hw : Region.wanted ⟨dst, .load t x, type, pos, after, some g⟩ (yielded ops a.tmps) = true) (h : wpList P ops Q (⟨dst, .load t x, type, pos, after, none⟩ :: rest) a w) : wpList P ops Q (⟨dst, .load t x, type, pos, after, some g⟩ :: rest) a w := by
  unfold wpList at h ⊢
  rw [if_pos hw]
  rw [if_pos (by simp [Region.wanted])] at h
  exact h
theorem at_calls {P : Program} {f : FuncId} {args : Array Value} {w : World} {X : Ending → World → Prop} (h : Calls P f args w X) : Calls P f args w X := h
/-- The number with an index; a word of its own, so that the walk leaves it as it is. -/
def nth (l : List Nat) (i : Nat) : Nat := l.getD i 0
/-- A type of several cells; a type of one cell. -/
structure RowTy (P : Program) (ty : TypeId) (n : Nat) : Prop where
  ex : ∃ d, P.underlying ty = some d ∧ isRow d = true ∧ (P.info? ty).map (·.size) = some n
structure OneTy (P : Program) (ty : TypeId) : Prop where
  ex : ∃ d, P.underlying ty = some d ∧ isRow d = false ∧ (P.info? ty).map (·.size) = some 1
section
variable {P : Program} {w w0 : World} {G : List Nat} {L : List Ent} {R : List Thing} {ops : Array Oper} {rest : List Oper} {o : Oper} {a : Act} {Q : Exit → Act → World → Prop}
theorem run_load_one {ty : TypeId} (hty : OneTy P ty) {g i : Nat} {t : TypeId} {cs : Array Value} {v : Value} (hB : Blk w g t cs) (hv : cs[i]? = some v) : (loadVar ty ⟨g, i, none⟩).run P w = .ok v w := by
  obtain ⟨d, hu, hd, _⟩ := hty.ex
  have hc := hB.cell i
  rw [hv] at hc
  simp [loadVar, Sem.run_bind, run_isAgg_no hu hd, hc]
theorem run_store_one {ty : TypeId} (hty : OneTy P ty) {g i : Nat} {t : TypeId} {cs : Array Value} {v : Value} (hB : Blk w g t cs) (hi : i < cs.size) (h1 : v.oneCell' = true) :
    (storeVar ty ⟨g, i, none⟩ v).run P w = .ok () (w.setRow g (cs.setIfInBounds i v)) := by
  obtain ⟨d, hu, hd, hs⟩ := hty.ex
  have hc : v.cells = #[v] := by cases v <;> simp_all [Value.cells, Value.oneCell']
  have := run_storeCells_at P g i t [v] 0 cs w hB (by simp; omega) (by simpa using h1)
  simp only [Nat.add_zero] at this
  simp only [storeVar, hc, Sem.run_bind, Go.Bul.run_sizeOf hs, Result.andThen_ok, List.size_toArray, List.length_cons, List.length_nil, ne_eq, not_true_eq_false, if_false, this]
  congr 2
  apply Array.ext'
  simp [List.set_eq_take_append_cons_drop, hi]
theorem wpList_mem_load (hM : Mem G w0 L R w) (hgd : o.guard = none) (ty : TypeId) (x : Operand) (ho : o.op = .load ty x) (g : Nat) (hx : a.eval x = .pointer (some ⟨g, 0, none⟩))
    (t : TypeId) (n : Nat) (cs : Array Value) (hL : ⟨g, t, n, cs⟩ ∈ L) (hty : RowTy P ty n) (h : wpList P ops Q rest (a.put o.dst (.agg cs)) w) : wpList P ops Q (o :: rest) a w := by
  obtain ⟨d, hu, hd, hi⟩ := hty.ex
  exact wpList_load_blk hgd ty x ho g hx t cs n d (hM.blk hL) hu hd hi (hM.size hL) h
theorem wpList_mem_part (hM : Mem G w0 L R w) (hgd : o.guard = none) (ty : TypeId) (x : Operand) (ho : o.op = .load ty x) (g off : Nat) (hx : a.eval x = .pointer (some ⟨g, off, none⟩))
    (t : TypeId) (n : Nat) (cs : Array Value) (hL : ⟨g, t, n, cs⟩ ∈ L) (m : Nat) (hty : RowTy P ty m) (hm : off + m ≤ n) (X : Array Value) (hX : cs.extract off (off + m) = X)
    (h : wpList P ops Q rest (a.put o.dst (.agg X)) w) : wpList P ops Q (o :: rest) a w := by
  obtain ⟨d, hu, hd, hi⟩ := hty.ex
  exact wpList_load_part hgd ty x ho g off hx t cs m d (hM.blk hL) hu hd hi (by have := hM.size hL; omega) X hX h
theorem wpList_mem_cell (hM : Mem G w0 L R w) (hgd : o.guard = none) (ty : TypeId) (x : Operand) (ho : o.op = .load ty x) (g i : Nat) (hx : a.eval x = .pointer (some ⟨g, i, none⟩))
    (t : TypeId) (n : Nat) (cs : Array Value) (hL : ⟨g, t, n, cs⟩ ∈ L) (hty : OneTy P ty) (v : Value) (hv : cs[i]? = some v)
    (h : wpList P ops Q rest (a.put o.dst v) w) : wpList P ops Q (o :: rest) a w :=
  wpList_plain hgd fun K hK => by
    unfold Oper.wp execOp
    simp only [ho, hx, Instr.loadAt, Instr.sureAddr, Sem.run_bind, Sem.run_pure, Result.andThen_ok, run_load_one hty (hM.blk hL) hv]
    exact hK _ _ h
/-- A number out of a block of numbers. -/
theorem wpList_mem_num (hM : Mem G w0 L R w) (hgd : o.guard = none) (ty : TypeId) (x : Operand) (ho : o.op = .load ty x) (g i : Nat) (hx : a.eval x = .pointer (some ⟨g, i, none⟩))
    (t : TypeId) (n : Nat) (k : IntKind) (l : List Nat) (hL : ⟨g, t, n, cellsOf k l⟩ ∈ L) (hty : OneTy P ty) (hi : i < n)
    (h : wpList P ops Q rest (a.put o.dst (.int k (nth l i : Nat))) w) : wpList P ops Q (o :: rest) a w :=
  wpList_mem_cell hM hgd ty x ho g i hx t n _ hL hty _ (cellsOf_get k l i (by have := hM.size hL; simp at this; omega)) h
theorem wpList_mem_store (hM : Mem G w0 L R w) (hgd : o.guard = none) (ty : TypeId) (x y : Operand) (ho : o.op = .store ty x y) (g : Nat) (hx : a.eval x = .pointer (some ⟨g, 0, none⟩))
    (vs : Array Value) (hy : a.eval y = .agg vs) (t : TypeId) (n : Nat) (cs : Array Value) (F : Array Value → List Ent) (hL : UpdL g t n cs L F) (hty : RowTy P ty n) (hv : vs.size = n) (h1 : ∀ v ∈ vs.toList, v.oneCell' = true)
    (hdst : o.dst = none) (h : ∀ w', Mem G w0 (F vs) R w' → wpList P ops Q rest a w') : wpList P ops Q (o :: rest) a w := by
  obtain ⟨d, hu, hd, hi⟩ := hty.ex
  have hin : (⟨g, t, n, cs⟩ : Ent) ∈ L := by obtain ⟨A, B, rfl, _⟩ := hL; simp
  have hb := hM.blk hin
  exact wpList_store_blk hgd ty x y ho g hx vs hy t cs n hb hi hv (hM.size hin) h1 hdst fun w' hw' => h w' (hM.put hL (hw' ▸ (Only.refl g w).setRow vs) (hw' ▸ hb.row vs) hv)
theorem wpList_mem_store_part (hM : Mem G w0 L R w) (hgd : o.guard = none) (ty : TypeId) (x y : Operand) (ho : o.op = .store ty x y) (g off : Nat) (hx : a.eval x = .pointer (some ⟨g, off, none⟩))
    (vs : Array Value) (hy : a.eval y = .agg vs) (t : TypeId) (n : Nat) (cs : Array Value) (F : Array Value → List Ent) (hL : UpdL g t n cs L F) (m : Nat) (hty : RowTy P ty m) (hv : vs.size = m) (hm : off + m ≤ n) (h1 : ∀ v ∈ vs.toList, v.oneCell' = true)
    (hdst : o.dst = none) (X : Array Value) (hX : (splice cs.toList off vs.toList).toArray = X) (h : ∀ w', Mem G w0 (F X) R w' → wpList P ops Q rest a w') : wpList P ops Q (o :: rest) a w := by
  obtain ⟨d, hu, hd, hi⟩ := hty.ex
  have hin : (⟨g, t, n, cs⟩ : Ent) ∈ L := by obtain ⟨A, B, rfl, _⟩ := hL; simp
  have hb := hM.blk hin
  have hs := hM.size hin
  have hXs : X.size = n := by rw [← hX]; simp [splice]; omega
  exact wpList_store_part hgd ty x y ho g off hx vs hy t cs m hb hi hv (by omega) h1 hdst fun w' hw' => h w' (by rw [hX] at hw'; exact hM.put hL (hw' ▸ (Only.refl g w).setRow X) (hw' ▸ hb.row X) hXs)
theorem wpList_mem_set (hM : Mem G w0 L R w) (hgd : o.guard = none) (ty : TypeId) (x y : Operand) (ho : o.op = .store ty x y) (g i : Nat) (hx : a.eval x = .pointer (some ⟨g, i, none⟩))
    (v : Value) (hy : a.eval y = v) (t : TypeId) (n : Nat) (cs : Array Value) (F : Array Value → List Ent) (hL : UpdL g t n cs L F) (hty : OneTy P ty) (hi : i < n) (h1 : v.oneCell' = true)
    (hdst : o.dst = none) (h : ∀ w', Mem G w0 (F (cs.setIfInBounds i v)) R w' → wpList P ops Q rest a w') : wpList P ops Q (o :: rest) a w := by
  have hin : (⟨g, t, n, cs⟩ : Ent) ∈ L := by obtain ⟨A, B, rfl, _⟩ := hL; simp
  have hb := hM.blk hin
  have hs := hM.size hin
  have hic : i < cs.size := by omega
  have hrun := run_store_one (w := w) (v := v) hty hb hic h1
  refine wpList_plain hgd fun K hK => ?_
  unfold Oper.wp execOp
  simp only [ho, hx, hy, Instr.storeAt, Instr.sureAddr, Sem.run_bind, Sem.run_pure, Result.andThen_ok, hrun]
  show K (a.put o.dst undef) _
  rw [hdst]
  exact hK _ _ (h _ (hM.put hL ((Only.refl g w).setRow _) (hb.row _) (by simpa using hs)))
/-- A number into a block of numbers. -/
theorem wpList_mem_setnum (hM : Mem G w0 L R w) (hgd : o.guard = none) (ty : TypeId) (x y : Operand) (ho : o.op = .store ty x y) (g i : Nat) (hx : a.eval x = .pointer (some ⟨g, i, none⟩))
    (k : IntKind) (z : Int) (hy : a.eval y = .int k z) (t : TypeId) (n : Nat) (l : List Nat) (F : Array Value → List Ent) (hL : UpdL g t n (cellsOf k l) L F) (hty : OneTy P ty) (hi : i < n) (v : Nat) (hv : z = (v : Int))
    (hdst : o.dst = none) (h : ∀ w', Mem G w0 (F (cellsOf k (l.set i v))) R w' → wpList P ops Q rest a w') : wpList P ops Q (o :: rest) a w := by
  subst hv
  exact wpList_mem_set hM hgd ty x y ho g i hx _ hy t n _ F hL hty hi rfl hdst fun w' hw' => h w' (by rw [cellsOf_set] at hw'; exact hw')
theorem wpList_mem_alloc (hM : Mem G w0 L R w) (hgd : o.guard = none) (ty : TypeId) (ho : o.op = .alloc ty) (z : Value) (hz : (P.info? ty).map (·.zero) = some (some z)) (n : Nat) (hn : z.cells.size = n)
    (h : ∀ g w', Mem G w0 (⟨g, ty, n, z.cells⟩ :: L) R w' → wpList P ops Q rest (a.put o.dst (.pointer (some ⟨g, 0, none⟩))) w') : wpList P ops Q (o :: rest) a w :=
  wpList_alloc_zero hgd ty ho z hz (h _ _ (hM.alloc _ _ hn))
theorem wpList_mem_box (hM : Mem G w0 L R w) (hgd : o.guard = none) (ty : TypeId) (x : Operand) (ho : o.op = .box ty x) (cs : Array Value) (hx : a.eval x = .agg cs) (n : Nat) (_ : RowTy P ty n) (hn : cs.size = n)
    (h : ∀ g w', Mem G w0 (⟨g, ty, n, cs⟩ :: L) R w' → wpList P ops Q rest (a.put o.dst (.pointer (some ⟨g, 0, none⟩))) w') : wpList P ops Q (o :: rest) a w :=
  wpList_plain hgd fun K hK => by
    unfold Oper.wp execOp
    simp only [ho, hx, Instr.box, newVar, newRow, newObj, Sem.run_bind, Sem.run_pure, Value.cells]
    exact hK _ _ (h _ _ (hM.alloc cs ty hn))
/-- A slice literal of numbers. -/
theorem run_buildSlice_nums {t e : TypeId} {k : IntKind} (ht : P.underlying t = some (.slice e)) (hz : (P.info? e).map (fun i => (i.zero, i.size)) = some (some (.int k 0), 1)) (parts : List (Nat × Value)) (l : List Nat) (len : Nat) (hlen : len ≤ 1000) (hlen0 : 0 < len) (hl : l.length = len)
    (hf : Instr.fill (fun i => some (i * 1, 1)) ((Array.range len).map fun _ => Value.int k 0) parts = some (cellsOf k l)) (w : World) :
    (Instr.buildSlice t len parts.toArray).run P w = .ok (.slice (some ⟨w.heap.size, 0, none⟩) len len) (w.alloc (.cells (cellsOf k l) e)) := by
  cases hq : P.info? e with
  | none => simp [hq] at hz
  | some i =>
    have h1 : i.zero = some (.int k 0) ∧ i.size = 1 := by simpa [hq] using hz
    have hs : (sizeOf e).run P w = .ok 1 w := by simp [sizeOf, typeInfo, hq, h1.2]
    have hzr : (zeroValue e).run P w = .ok (.int k 0) w := by simp [zeroValue, typeInfo, hq, h1.1]
    have hne : ¬ len * 1 = 0 := by omega
    have hbig : ¬ (len * 1 > 2 ^ 24) := by omega
    have hmap : ((Array.range (len * 1)).map fun x => (#[Value.int k 0] : Array Value)[x % (#[Value.int k 0] : Array Value).size]!) = (Array.range len).map fun _ => Value.int k 0 := by
      rw [Nat.mul_one]
      apply congrArg (fun f => Array.map f (Array.range len))
      funext x
      simp [Nat.mod_one]
    simp only [Instr.buildSlice, Sem.run_bind, run_underlying ht, Result.andThen_ok, hs, hbig, if_false, hne, hzr, Value.cells, Sem.run_pure, hmap, hf, newRow, newObj]
    rfl
/-- The zero value of a type, as cells. -/
structure ZeroTy (P : Program) (ty : TypeId) (n : Nat) (cs : Array Value) : Prop where
  ex : ∃ z, (P.info? ty).map (·.zero) = some (some z) ∧ z.cells = cs ∧ cs.size = n
theorem wpList_mem_zero (hM : Mem G w0 L R w) (hgd : o.guard = none) (ty : TypeId) (ho : o.op = .alloc ty) (n : Nat) (cs : Array Value) (hz : ZeroTy P ty n cs)
    (h : ∀ g w', Mem G w0 (⟨g, ty, n, cs⟩ :: L) R w' → wpList P ops Q rest (a.put o.dst (.pointer (some ⟨g, 0, none⟩))) w') : wpList P ops Q (o :: rest) a w := by
  obtain ⟨z, hzz, rfl, hn⟩ := hz.ex
  exact wpList_mem_alloc hM hgd ty ho z hzz n hn h
structure ArrTy (P : Program) (ty : TypeId) : Prop where
  ex : ∃ m e k, P.underlying ty = some (.array m e) ∧ (P.info? e).map (·.size) = some k
/-- The zero value of an array type, written 'T{}'. -/
theorem wpList_build_zero (hgd : o.guard = none) (ty : TypeId) (ho : o.op = .build ty #[]) (n : Nat) (cs : Array Value) (hz : ZeroTy P ty n cs) (hA : ArrTy P ty)
    (h : wpList P ops Q rest (a.put o.dst (.agg cs)) w) : wpList P ops Q (o :: rest) a w := by
  obtain ⟨z, hzz, rfl, _⟩ := hz.ex
  obtain ⟨m, e, k, hu, he⟩ := hA.ex
  refine wpList_plain hgd fun K hK => ?_
  cases hq : P.info? ty with
  | none => simp [hq] at hzz
  | some i =>
    have hz' : i.zero = some z := by simpa [hq] using hzz
    have hzr : (zeroValue ty).run P w = .ok z w := by simp [zeroValue, typeInfo, hq, hz']
    unfold Oper.wp execOp
    simp only [ho, Instr.build, Sem.run_bind, hzr, run_underlying hu, Result.andThen_ok, Go.Bul.run_sizeOf he, Array.map_empty, Instr.fill, Sem.run_pure]
    exact hK _ _ h
/-- A block that was laid anew gets into the list. -/
theorem wpList_mem_new (k : IntKind) (xs : List Nat) {cs : Array Value} {t : TypeId} (hM : Mem G w0 L R w) (hcs : cs = cellsOf k xs) {l : List Oper} (h : ∀ w', Mem G w0 (⟨w.heap.size, t, xs.length, cellsOf k xs⟩ :: L) R w' → wpList P ops Q l a w') : wpList P ops Q l a (w.alloc (.cells cs t)) :=
  h _ (by rw [hcs]; exact hM.alloc _ _ (by simp))
theorem results_mem_cell (hM : Mem G w0 L R w) {fn : Func} {p : Tmp} {ty : TypeId} (h : fn.results = #[.cell p ty]) {tmps : Array Value} {g : Nat} (hp : tmps.getD p undef = .pointer (some ⟨g, 0, none⟩)) {t : TypeId} {n : Nat} {cs : Array Value}
    (hL : ⟨g, t, n, cs⟩ ∈ L) (hty : RowTy P ty n) : (results fn tmps).run P w = .ok (.agg cs) w := by
  obtain ⟨d, hu, hd, hi⟩ := hty.ex
  exact results_cell_row h tmps w g t cs (0, 0) d hp (hM.blk hL) hu (by cases d <;> simp_all [isRow]) (by rw [hi, hM.size hL])
theorem results_mem_cell_tmp (hM : Mem G w0 L R w) {fn : Func} {p u : Tmp} {ty : TypeId} (h : fn.results = #[.cell p ty, .tmp u]) {tmps : Array Value} {g : Nat} (hp : tmps.getD p undef = .pointer (some ⟨g, 0, none⟩)) {t : TypeId} {n : Nat} {cs : Array Value}
    (hL : ⟨g, t, n, cs⟩ ∈ L) (hty : RowTy P ty n) {e : Value} (he : tmps.getD u undef = e) : (results fn tmps).run P w = .ok (.tuple #[.agg cs, e]) w := by
  obtain ⟨d, hu, hd, hi⟩ := hty.ex
  rw [results_cell_tmp h, hp, he]
  have hl := run_loadVar_row (P := P) w g t ty cs (0, 0) d (hM.blk hL) hu (by cases d <;> simp_all [isRow]) (by rw [hi, hM.size hL])
  simp [asAddr, hl]
/-! ### In a region whose order is drawn -/
section
variable {C : World → Prop}
theorem quietAt_mem_load (hM : Mem G w0 L R w) (ty : TypeId) (x : Operand) (ho : o.op = .load ty x) (g : Nat) (hx : a.eval x = .pointer (some ⟨g, 0, none⟩)) (t : TypeId) (n : Nat) (cs : Array Value) (hL : ⟨g, t, n, cs⟩ ∈ L) (hty : RowTy P ty n) :
    o.quietAt P a C w (.agg cs) := by
  obtain ⟨d, hu, hd, hi⟩ := hty.ex
  have hs := hM.size hL
  exact quietAt_load ty x ho g 0 hx t cs n d (hM.blk hL) hu hd hi (by omega) cs (by simp [← hs])
theorem quietAt_mem_part (hM : Mem G w0 L R w) (ty : TypeId) (x : Operand) (ho : o.op = .load ty x) (g off : Nat) (hx : a.eval x = .pointer (some ⟨g, off, none⟩)) (t : TypeId) (n : Nat) (cs : Array Value) (hL : ⟨g, t, n, cs⟩ ∈ L) (m : Nat) (hty : RowTy P ty m)
    (hm : off + m ≤ n) (X : Array Value) (hX : cs.extract off (off + m) = X) : o.quietAt P a C w (.agg X) := by
  obtain ⟨d, hu, hd, hi⟩ := hty.ex
  have hs := hM.size hL
  exact quietAt_load ty x ho g off hx t cs m d (hM.blk hL) hu hd hi (by omega) X hX
theorem quietAt_mem_cell (hM : Mem G w0 L R w) (ty : TypeId) (x : Operand) (ho : o.op = .load ty x) (g i : Nat) (hx : a.eval x = .pointer (some ⟨g, i, none⟩)) (t : TypeId) (n : Nat) (cs : Array Value) (hL : ⟨g, t, n, cs⟩ ∈ L) (hty : OneTy P ty) (v : Value) (hv : cs[i]? = some v) :
    o.quietAt P a C w v := by
  unfold Oper.quietAt execOp
  simp only [ho, hx, Instr.loadAt, Instr.sureAddr, Sem.run_bind, Sem.run_pure, Result.andThen_ok, run_load_one hty (hM.blk hL) hv]
  exact ⟨rfl, rfl⟩
theorem quietAt_mem_num (hM : Mem G w0 L R w) (ty : TypeId) (x : Operand) (ho : o.op = .load ty x) (g i : Nat) (hx : a.eval x = .pointer (some ⟨g, i, none⟩)) (t : TypeId) (n : Nat) (k : IntKind) (l : List Nat) (hL : ⟨g, t, n, cellsOf k l⟩ ∈ L) (hty : OneTy P ty) (hi : i < n) :
    o.quietAt P a C w (.int k (nth l i : Nat)) :=
  quietAt_mem_cell hM ty x ho g i hx t n _ hL hty _ (cellsOf_get k l i (by have := hM.size hL; simp at this; omega))
theorem quiet_mem_call {f : FuncId} {args : Array Value} {w' : World} {v : Value} (hM : Mem G w0 L R w') (h : Calls P f args w' fun e w'' => e = .returned v ∧ Below w'.heap.size w' w'') :
    Calls P f args w' fun e w'' => e = .returned v ∧ Mem G w0 L R w'' := h.mono fun _ _ ⟨he, hb⟩ => ⟨he, hM.step hb⟩
theorem quiet_mem_call_same {f : FuncId} {args : Array Value} {w' : World} {v : Value} (hM : Mem G w0 L R w') (h : Calls P f args w' fun e w'' => e = .returned v ∧ w' = w'') :
    Calls P f args w' fun e w'' => e = .returned v ∧ Mem G w0 L R w'' := h.mono fun _ _ ⟨he, hb⟩ => ⟨he, hb ▸ hM⟩
theorem quiet_unwanted {K : Act → Prop} (hg : Region.wanted o (yielded ops a.tmps) = false) (h : K (a.put o.dst undef)) : if Region.wanted o (yielded ops a.tmps) then o.quiet P a C K else K (a.put o.dst undef) := by
  rw [if_neg (by simp [hg])]
  exact h
end
end
theorem quiet_wanted {P : Program} {ops : Array Oper} {C : World → Prop} {o : Oper} {a : Act} {K : Act → Prop} (hg : Region.wanted o (yielded ops a.tmps) = true)
    (h : ∃ v, (∀ w, C w → o.quietAt P a C w v) ∧ K (a.put o.dst v)) : if Region.wanted o (yielded ops a.tmps) then o.quiet P a C K else K (a.put o.dst undef) := by
  rw [if_pos hg]
  exact h
end Go.Thg
