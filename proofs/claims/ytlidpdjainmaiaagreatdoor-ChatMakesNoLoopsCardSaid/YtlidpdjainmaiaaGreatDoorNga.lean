/- What the walks of this seat share (no program): loads out of slices, builds of structs, guarded operations. -/
import Derived.Test.YtlidpdjainmaiaaGreatDoorRgm
import Derived.Test.YtlidpdjainmaiaaGreatDoorXa
import Derived.Test.YtlidpdjainmaiaaGreatDoorProg
import Derived.Tactics2
import Derived.WalkSpells
import Derived.WalkKit
import Derived.LoopTactic
import Derived.Deep.CutBlock
import Derived.Deep.CutRange
import Derived.Deep.Cut
import Derived.LoopN
import Derived.IntWalk
namespace Go.Thg
open Go Go.RowKit Go.Bul
theorem wpList_mem_set_to {P : Program} {w w0 : World} {G : List Nat} {L : List Ent} {R : List Thing} {ops : Array Oper} {rest : List Oper} {o : Oper} {a : Act} {Q : Exit → Act → World → Prop}
    (hM : Mem G w0 L R w) (hgd : o.guard = none) (ty : TypeId) (x y : Operand) (ho : o.op = .store ty x y) (g i : Nat) (hx : a.eval x = .pointer (some ⟨g, i, none⟩))
    (v : Value) (hy : a.eval y = v) (t : TypeId) (n : Nat) (cs : Array Value) (F : Array Value → List Ent) (hL : UpdL g t n cs L F) (hty : OneTy P ty) (hi : i < n) (h1 : v.oneCell' = true)
    (hdst : o.dst = none) (X : Array Value) (hX : cs.setIfInBounds i v = X) (h : ∀ w', Mem G w0 (F X) R w' → wpList P ops Q rest a w') : wpList P ops Q (o :: rest) a w := by
  subst hX
  exact wpList_mem_set hM hgd ty x y ho g i hx v hy t n cs F hL hty hi h1 hdst h
/-- What a slice reads as: n elements of so many cells. -/
def Reads (w : World) (size : Nat) (A : Option Addr) (n : Nat) (xs : List Value) : Prop :=
  xs.length = n * size ∧ (0 < n → ∃ g off, A = some ⟨g, off, none⟩ ∧ g < w.heap.size ∧ ∀ j u, xs[j]? = some u → w.cell? ⟨g, off + j, none⟩ = some u)
theorem Reads.keep {w w' : World} {size : Nat} {A : Option Addr} {n : Nat} {xs : List Value} (h : Reads w size A n xs) (hb : Below w.heap.size w w') : Reads w' size A n xs :=
  ⟨h.1, fun hn => by
    obtain ⟨g, off, h1, h2, h3⟩ := h.2 hn
    exact ⟨g, off, h1, Nat.lt_of_lt_of_le h2 hb.size, fun j u hu => (hb.cell (p := ⟨g, off + j, none⟩) h2).trans (h3 j u hu)⟩⟩
theorem OffRow.reads {w : World} {e : TypeId} {size : Nat} {A : Option Addr} {n c : Nat} {xs : List Value} (h : OffRow w e size (.slice A n c) n xs) : Reads w size A n xs :=
  ⟨h.1, fun hn => by
    obtain ⟨g, off, h1, h2, h3, _⟩ := h.cells hn
    exact ⟨g, off, h1, h2, h3⟩⟩
theorem Reads.nil (w : World) (size : Nat) (A : Option Addr) : Reads w size A 0 [] := ⟨by simp, fun h => by omega⟩
theorem Reads.src {P : Program} {w : World} {size : Nat} {A : Option Addr} {n c : Nat} {xs : List Value} {tx e' : TypeId} (h : Reads w size A n xs) (hk : P.underlying tx = some (.slice e')) (h1 : ∀ u ∈ xs, u.oneCell' = true) : Src P size tx (.slice A n c) n xs w := by
  rcases Nat.eq_zero_or_pos n with hn | hn
  · subst hn
    have hx : xs = [] := List.eq_nil_of_length_eq_zero (by simpa using h.1)
    subst hx
    cases A with
    | none => exact Src.ofNil w hk c
    | some a => exact Src.ofSlice w hk a 0 c [] (by simp) (by simp) h1
  · obtain ⟨g, off, rfl, _, h2⟩ := h.2 hn
    exact Src.ofSlice w hk _ n c xs h.1 (fun j u hu => by rw [addr_at]; exact h2 j u hu) h1
/-- A cell that is known, wherever. -/
theorem run_one_load {P : Program} {w : World} {ty : TypeId} (hty : OneTy P ty) {g off : Nat} {v : Value} (hc : w.cell? ⟨g, off, none⟩ = some v) : (loadVar ty ⟨g, off, none⟩).run P w = .ok v w := by
  obtain ⟨d, hu, hd, _⟩ := hty.ex
  simp [loadVar, Sem.run_bind, run_isAgg_no hu hd, hc]
theorem wpList_one_load {P : Program} {w : World} {ops : Array Oper} {rest : List Oper} {o : Oper} {a : Act} {Q : Exit → Act → World → Prop} (hgd : o.guard = none) (ty : TypeId) (x : Operand) (ho : o.op = .load ty x) (g off : Nat) (hx : a.eval x = .pointer (some ⟨g, off, none⟩))
    (hty : OneTy P ty) (v : Value) (hc : w.cell? ⟨g, off, none⟩ = some v) (h : wpList P ops Q rest (a.put o.dst v) w) : wpList P ops Q (o :: rest) a w :=
  wpList_plain hgd fun K hK => by
    unfold Oper.wp execOp
    simp only [ho, hx, Instr.loadAt, Instr.sureAddr, Sem.run_bind, Sem.run_pure, Result.andThen_ok, run_one_load hty hc]
    exact hK _ _ h
theorem quietAt_one {P : Program} {C : World → Prop} {w : World} {o : Oper} {a : Act} (ty : TypeId) (x : Operand) (ho : o.op = .load ty x) (g off : Nat) (hx : a.eval x = .pointer (some ⟨g, off, none⟩)) (hty : OneTy P ty) (v : Value) (hc : w.cell? ⟨g, off, none⟩ = some v) :
    o.quietAt P a C w v := by
  unfold Oper.quietAt execOp
  simp only [ho, hx, Instr.loadAt, Instr.sureAddr, Sem.run_bind, Sem.run_pure, Result.andThen_ok, run_one_load hty hc]
  exact ⟨rfl, rfl⟩
/-- A struct read through a slice: one of its elements. -/
theorem wpList_reads_load {P : Program} {w : World} {ops : Array Oper} {rest : List Oper} {o : Oper} {a : Act} {Q : Exit → Act → World → Prop} (hgd : o.guard = none) (ty : TypeId) (x : Operand) (ho : o.op = .load ty x) (g off : Nat) (hx : a.eval x = .pointer (some ⟨g, off, none⟩))
    (m : Nat) (hty : RowTy P ty m) (X : Array Value) (hm : X.size = m) (hX : ∀ j u, X[j]? = some u → w.cell? ⟨g, off + j, none⟩ = some u) (h : wpList P ops Q rest (a.put o.dst (.agg X)) w) : wpList P ops Q (o :: rest) a w := by
  obtain ⟨d, hu, hd, hi⟩ := hty.ex
  refine wpList_plain hgd fun K hK => ?_
  have hl : (loadCells ⟨g, off, none⟩ X.toList.length).run P w = .ok X.toList.toArray w :=
    run_loadCells_list (P := P) w ⟨g, off, none⟩ X.toList (fun j u hu => by rw [addr_at]; exact hX j u (by simpa using hu))
  rw [Array.length_toList, hm] at hl
  simp only [Array.toArray_toList] at hl
  have hrun : (loadVar ty ⟨g, off, none⟩).run P w = .ok (.agg X) w := by simp [loadVar, Sem.run_bind, run_isAgg hu hd, Go.Bul.run_sizeOf hi, hl]
  unfold Oper.wp execOp
  simp only [ho, hx, Instr.loadAt, Instr.sureAddr, Sem.run_bind, Sem.run_pure, Result.andThen_ok, hrun]
  exact hK _ _ h
end Go.Thg
namespace Go.Bul
open Go Go.RowKit Go.Thg
theorem wpHeld_stepG {P : Program} {ops : Array Oper} {S : World → Prop} {K : Act → Prop} {a : Act} {o : Oper} {l : List Oper} {v : Value} (hg : Region.wanted o (yielded ops a.tmps) = true) (hy : ∀ w, S w → (execOp a.eval o).run P w = .ok (.value v) w)
    (h : ∀ K' : Act → Prop, (∀ a', wpHeld P ops S K l a' → K' a') → K' (a.put o.dst v)) : wpHeld P ops S K (o :: l) a :=
  ⟨v, .inl ⟨hg, hy⟩, h _ fun _ h => h⟩
theorem wpList_wanted {P : Program} {w : World} {ops : Array Oper} {rest : List Oper} {a : Act} {Q : Exit → Act → World → Prop} {dst : Option Tmp} {op : Op} {type : TypeId} {pos : String} {after : Array Edge} {g : Nat × Bool}
    (hw : Region.wanted ⟨dst, op, type, pos, after, some g⟩ (yielded ops a.tmps) = true) (h : wpList P ops Q (⟨dst, op, type, pos, after, none⟩ :: rest) a w) : wpList P ops Q (⟨dst, op, type, pos, after, some g⟩ :: rest) a w := by
  unfold wpList at h ⊢
  rw [if_pos hw]
  rw [if_pos (by simp [Region.wanted])] at h
  exact h
theorem wpHeld_stepU {P : Program} {ops : Array Oper} {S : World → Prop} {K : Act → Prop} {a : Act} {o : Oper} {l : List Oper} (hg : Region.wanted o (yielded ops a.tmps) = false)
    (h : ∀ K' : Act → Prop, (∀ a', wpHeld P ops S K l a' → K' a') → K' (a.put o.dst undef)) : wpHeld P ops S K (o :: l) a :=
  ⟨undef, .inr ⟨hg, rfl⟩, h _ fun _ h => h⟩
theorem fold_set (off : Nat) : ∀ (vs : List Value) (j : Nat) (cs : Array Value), off + j + vs.length ≤ cs.size →
    ((vs.zipIdx j).foldl (fun cs (p : Value × Nat) => cs.setIfInBounds (off + p.2) p.1) cs).toList = cs.toList.take (off + j) ++ (vs ++ cs.toList.drop (off + j + vs.length))
  | [], j, cs, _ => by simp
  | v :: vs, j, cs, h => by
    simp only [List.length_cons] at h
    have ih := fold_set off vs (j + 1) (cs.setIfInBounds (off + j) v) (by simp; omega)
    simp only [List.zipIdx_cons, List.foldl_cons]
    rw [ih]
    simp only [Array.toList_setIfInBounds, List.length_cons]
    have hlt : off + j < cs.toList.length := by simp; omega
    rw [show off + (j + 1) = (off + j) + 1 by omega, List.take_succ_eq_append_getElem (by simpa using hlt), List.getElem_set_self, List.take_set_of_le (Nat.le_refl _), List.drop_set_of_lt (by omega)]
    simp only [List.append_assoc, List.cons_append, List.nil_append]
    congr 4
    omega
theorem fill_cons {place : Nat → Option (Nat × Nat)} {cells : Array Value} {i off size : Nat} {v : Value} {rest : List (Nat × Value)} (hp : place i = some (off, size)) (hs : v.cells.size = size) (hb : off + size ≤ cells.size) :
    Instr.fill place cells ((i, v) :: rest) = Instr.fill place (splice cells.toList off v.cells.toList).toArray rest := by
  have hcond : (decide (v.cells.size ≠ size) || decide (off + v.cells.size > cells.size)) = false := by simp; omega
  simp only [Instr.fill, hp, hcond, Bool.false_eq_true, if_false]
  congr 1
  apply Array.ext'
  have := fold_set off v.cells.toList 0 cells (by simp; omega)
  simp only [Nat.add_zero] at this
  rw [← Array.foldl_toList, Array.toList_zipIdx]
  exact this
theorem run_build_struct {P : Program} {ty : TypeId} {fields : Array Field} {z : Value} (hu : P.underlying ty = some (.struct fields)) (hz : (P.info? ty).map (·.zero) = some (some z)) {places : Array (Nat × Nat)}
    (hp : ∀ w, (fields.mapM fun f => do pure (f.offset, ← sizeOf f.type) : Sem (Array (Nat × Nat))).run P w = .ok places w) {parts : Array (Nat × Value)} {cs : Array Value} (hf : Instr.fill (places[·]?) z.cells parts.toList = some cs) (w : World) :
    (Instr.build ty parts).run P w = .ok (.agg cs) w := by
  cases hq : P.info? ty with
  | none => simp [hq] at hz
  | some i =>
    have hz' : i.zero = some z := by simpa [hq] using hz
    have hzr : (zeroValue ty).run P w = .ok z w := by simp [zeroValue, typeInfo, hq, hz']
    simp only [Instr.build, Sem.run_bind, hzr, run_underlying hu, Result.andThen_ok, hp, hf, Sem.run_pure]
theorem run_part_row {P : Program} {ty : TypeId} {m : Nat} (hty : RowTy P ty m) {cs X : Array Value} {off : Nat} (hX : cs.extract off (off + m) = X) (w : World) : (part ty cs off).run P w = .ok (.agg X) w := by
  obtain ⟨d, hu, hd, hi⟩ := hty.ex
  simp only [part, Sem.run_bind, run_isAgg hu hd, run_sizeOf hi, Result.andThen_ok, if_true, hX, Sem.run_pure]
theorem run_part_one {P : Program} {ty : TypeId} (hty : OneTy P ty) {cs : Array Value} {v : Value} {off : Nat} (hv : cs[off]? = some v) (w : World) : (part ty cs off).run P w = .ok v w := by
  obtain ⟨d, hu, hd, _⟩ := hty.ex
  simp only [part, Sem.run_bind, run_isAgg_no hu hd, Result.andThen_ok, Bool.false_eq_true, if_false, hv, Sem.run_pure]
theorem eqFields_cons {P : Program} {d : Nat} {xs ys : Array Value} {f : Field} {fs : List Field} {a b : Value} {r q : Bool} {w : World} (hn : f.name ≠ "_") (ha : (part f.type xs f.offset).run P w = .ok a w) (hb : (part f.type ys f.offset).run P w = .ok b w) (hr : (Op.equalIn d f.type a b).run P w = .ok r w)
    (hq : (Op.eqFields d xs ys fs).run P w = .ok q w) : (Op.eqFields d xs ys (f :: fs)).run P w = .ok (r && q) w := by
  simp only [Op.eqFields, hn, ne_eq, not_false_eq_true, if_true, Sem.run_bind, ha, hb, hr, Result.andThen_ok]
  cases r
  · simp [Sem.run_pure]
  · simpa using hq
theorem at_build_g {P : Program} {w : World} {ops : Array Oper} {rest : List Oper} {a : Act} {Q : Exit → Act → World → Prop} {dst : Option Tmp} {type : TypeId} {pos : String} {after : Array Edge} {t : TypeId} {ps : Array (Nat × Operand)} {g : Nat × Bool}
    (hw : Region.wanted ⟨dst, .build t ps, type, pos, after, some g⟩ (yielded ops a.tmps) = true) (h : wpList P ops Q (⟨dst, .build t ps, type, pos, after, none⟩ :: rest) a w) : wpList P ops Q (⟨dst, .build t ps, type, pos, after, some g⟩ :: rest) a w :=
  wpList_wanted hw h
theorem splice_at (A B C X : List Value) (hX : X.length = B.length) : splice (A ++ (B ++ C)) A.length X = A ++ (X ++ C) := by
  unfold splice
  rw [List.take_left, hX, ← List.drop_drop, List.drop_left, List.drop_left]
end Go.Bul
namespace Go.Thg
open Go Go.RowKit Go.Bul
theorem UpdL.again {g : Nat} {t : TypeId} {n : Nat} {cs : Array Value} {L : List Ent} {F : Array Value → List Ent} (h : UpdL g t n cs L F) (cs' : Array Value) : UpdL g t n cs' (F cs') F := by
  obtain ⟨A, B, _, h2⟩ := h
  exact ⟨A, B, h2 cs', h2⟩
theorem UpdR.again {r : Thing} {R : List Thing} {F : Thing → List Thing} (h : UpdR r R F) (r' : Thing) : UpdR r' (F r') F := by
  obtain ⟨A, B, _, h2⟩ := h
  exact ⟨A, B, h2 r', h2⟩
end Go.Thg
namespace Go.Bul
open Go Go.RowKit Go.Thg
theorem wpAll_of_T {P : Program} {ops : Array Oper} {Q : Exit → Act → World → Prop} {listed : Array Bool} {a : Act} {w : World} (S : World → Prop) (k : Nat) (h : wpAllT P ops Q S k listed a w) : wpAll P ops Q listed a w := fun fuel hf => wpAny_of_T fuel _ _ _ (h fuel hf)
theorem wp_region_allHB {P : Program} {Q : Exit → Act → World → Prop} {w w0 : World} {G : List Nat} {L : List Ent} {R : List Thing} (hM : Mem G w0 L R w) {id : Nat} {a : Act} {l : List Oper} (hm : P.follows .mixedOrders = true)
    (h : ∀ wd, Mem G w0 L R wd → wpAllH P l.toArray Q (fun w' => Below wd.heap.size wd w') (Array.replicate l.toArray.size false) a wd) : (Code.region id l.toArray true).wp P Q a w :=
  wp_region_allH _ hm (h _ hM.drew)
section
variable {w : World} {ops : Array Oper} {rest : List Oper} {o : Oper} {a : Act} {Q : Exit → Act → World → Prop}
theorem wpList_build_run {P : Program} (hgd : o.guard = none) (ty : TypeId) (ps : Array (Nat × Operand)) (ho : o.op = .build ty ps) (parts : Array (Nat × Value)) (hp : (ps.map fun p => (p.1, a.eval p.2)) = parts) (v : Value)
    (hr : (Instr.build ty parts).run P w = .ok v w) (h : wpList P ops Q rest (a.put o.dst v) w) : wpList P ops Q (o :: rest) a w := by
  refine wpList_plain hgd fun K hK => ?_
  subst hp
  unfold Oper.wp execOp
  simp only [ho]
  have hr' : (Instr.build ty (ps.map fun (x : Nat × Operand) => match x with | (i, x) => (i, a.eval x))).run P w = .ok v w := hr
  simp only [Sem.run_bind, hr', Result.andThen_ok, Sem.run_pure]
  exact hK _ _ h
end
end Go.Bul
