/- Operations on whole rows: a struct or an array loaded from a block, stored into one, laid anew; equality of arrays of numbers. -/
import Derived.Test.YtlidpdjainmaiaaGreatDoorMem
import Derived.Laws.CopyOwn
import Derived.Laws.StructEq
import Derived.WalkKit
namespace Go.Bul
open Go Go.RowKit
section
variable {P : Program} {w : World} {ops : Array Oper} {rest : List Oper} {o : Oper} {a : Act} {Q : Exit → Act → World → Prop}

def isRow : TypeDesc → Bool
  | .struct _ | .array _ _ => true
  | _ => false

theorem run_isAgg {ty : TypeId} {d : TypeDesc} (hu : P.underlying ty = some d) (hd : isRow d = true) (w : World) : (isAgg ty).run P w = .ok true w := by
  unfold isAgg
  rw [Sem.run_bind, run_underlying hu w]
  cases d <;> simp_all [isRow]
theorem run_isAgg_no {ty : TypeId} {d : TypeDesc} (hu : P.underlying ty = some d) (hd : isRow d = false) (w : World) : (isAgg ty).run P w = .ok false w := by
  unfold isAgg
  rw [Sem.run_bind, run_underlying hu w]
  cases d <;> simp_all [isRow]
theorem run_sizeOf {ty : TypeId} {n : Nat} (hi : (P.info? ty).map (·.size) = some n) (w : World) : (sizeOf ty).run P w = .ok n w := by
  cases hq : P.info? ty with
  | none => simp [hq] at hi
  | some i =>
    have : i.size = n := by simpa [hq] using hi
    simp [sizeOf, typeInfo, hq, this]
theorem addr_at (g o j : Nat) : (⟨g, o, none⟩ : Addr).add j = ⟨g, o + j, none⟩ := by
  unfold Addr.add
  split
  · rename_i h; subst h; rfl
  · rfl

/-- A struct or an array, read out of a block from a place on. -/
theorem run_load_part (w : World) (g off : Nat) (t ty : TypeId) (cs : Array Value) (n : Nat) (d : TypeDesc) (hg : Blk w g t cs) (hu : P.underlying ty = some d) (hd : isRow d = true)
    (hi : (P.info? ty).map (·.size) = some n) (hn : off + n ≤ cs.size) : (loadVar ty ⟨g, off, none⟩).run P w = .ok (.agg (cs.extract off (off + n))) w := by
  have hl : (loadCells ⟨g, off, none⟩ (cs.extract off (off + n)).toList.length).run P w = .ok (cs.extract off (off + n)).toList.toArray w :=
    run_loadCells_list (P := P) w ⟨g, off, none⟩ (cs.extract off (off + n)).toList (fun j v hv => by
      rw [addr_at, hg.cell]
      simp only [Array.getElem?_toList] at hv
      rw [Array.getElem?_extract] at hv
      split at hv
      · exact hv
      · cases hv)
  have hlen : (cs.extract off (off + n)).toList.length = n := by simp; omega
  rw [hlen] at hl
  simp only [Array.toArray_toList] at hl
  simp [loadVar, Sem.run_bind, run_isAgg hu hd, run_sizeOf hi, hl]

theorem wpList_load_part (hgd : o.guard = none) (ty : TypeId) (x : Operand) (ho : o.op = .load ty x) (g off : Nat) (hx : a.eval x = .pointer (some ⟨g, off, none⟩))
    (t : TypeId) (cs : Array Value) (n : Nat) (d : TypeDesc) (hg : Blk w g t cs) (hu : P.underlying ty = some d) (hd : isRow d = true)
    (hi : (P.info? ty).map (·.size) = some n) (hn : off + n ≤ cs.size) (X : Array Value) (hX : cs.extract off (off + n) = X)
    (h : wpList P ops Q rest (a.put o.dst (.agg X)) w) : wpList P ops Q (o :: rest) a w :=
  wpList_plain hgd fun K hK => by
    unfold Oper.wp execOp
    simp only [ho, hx, Instr.loadAt, Instr.sureAddr, Sem.run_bind, Sem.run_pure, Result.andThen_ok, run_load_part w g off t ty cs n d hg hu hd hi hn, hX]
    exact hK _ _ h
/-- .. the whole block. -/
theorem wpList_load_blk (hgd : o.guard = none) (ty : TypeId) (x : Operand) (ho : o.op = .load ty x) (g : Nat) (hx : a.eval x = .pointer (some ⟨g, 0, none⟩))
    (t : TypeId) (cs : Array Value) (n : Nat) (d : TypeDesc) (hg : Blk w g t cs) (hu : P.underlying ty = some d) (hd : isRow d = true)
    (hi : (P.info? ty).map (·.size) = some n) (hn : cs.size = n)
    (h : wpList P ops Q rest (a.put o.dst (.agg cs)) w) : wpList P ops Q (o :: rest) a w :=
  wpList_load_part hgd ty x ho g 0 hx t cs n d hg hu hd hi (by omega) cs (by simp [← hn]) h

theorem Blk.row {g : Nat} {t : TypeId} {cs : Array Value} (h : Blk w g t cs) (X : Array Value) : Blk (w.setRow g X) g t X := setRow_heap w g cs X t (0, 0) h
theorem Blk.rowFar {g g' : Nat} {t : TypeId} {cs : Array Value} (h : Blk w g' t cs) (hne : g' ≠ g) (X : Array Value) : Blk (w.setRow g X) g' t cs := (setRow_other w g g' X hne).trans h

/-- .. in a quiet walk. -/
theorem quietAt_load {C : World → Prop} (ty : TypeId) (x : Operand) (ho : o.op = .load ty x) (g off : Nat) (hx : a.eval x = .pointer (some ⟨g, off, none⟩))
    (t : TypeId) (cs : Array Value) (n : Nat) (d : TypeDesc) (hg : Blk w g t cs) (hu : P.underlying ty = some d) (hd : isRow d = true)
    (hi : (P.info? ty).map (·.size) = some n) (hn : off + n ≤ cs.size) (X : Array Value) (hX : cs.extract off (off + n) = X) : o.quietAt P a C w (.agg X) := by
  unfold Oper.quietAt execOp
  simp only [ho, hx, Instr.loadAt, Instr.sureAddr, Sem.run_bind, Sem.run_pure, Result.andThen_ok, run_load_part w g off t ty cs n d hg hu hd hi hn, hX]
  exact ⟨rfl, rfl⟩

/-- A struct or an array, written into a block from a place on. -/
theorem wpList_store_part (hgd : o.guard = none) (ty : TypeId) (x y : Operand) (ho : o.op = .store ty x y) (g off : Nat) (hx : a.eval x = .pointer (some ⟨g, off, none⟩))
    (vs : Array Value) (hy : a.eval y = .agg vs) (t : TypeId) (cs : Array Value) (n : Nat) (hg : Blk w g t cs)
    (hi : (P.info? ty).map (·.size) = some n) (hv : vs.size = n) (hn : off + n ≤ cs.size) (h1 : ∀ v ∈ vs.toList, v.oneCell' = true)
    (hdst : o.dst = none) (h : ∀ w', w' = w.setRow g (splice cs.toList off vs.toList).toArray → wpList P ops Q rest a w') : wpList P ops Q (o :: rest) a w :=
  wpList_plain hgd fun K hK => by
    have hs := run_storeCells_at P g off t vs.toList 0 cs w hg (by simpa [hv] using hn) h1
    unfold Oper.wp execOp
    simp only [ho, hx, hy, Instr.storeAt, Instr.sureAddr, storeVar, Value.cells, Sem.run_bind, Sem.run_pure, Result.andThen_ok, run_sizeOf hi, hv, ne_eq, not_true_eq_false, if_false, Nat.add_zero] at hs ⊢
    rw [hs]
    simp only [Array.length_toList, Result.andThen_ok]
    show K (a.put o.dst undef) _
    rw [hdst]
    exact hK _ _ (h _ (by simp [splice]))
/-- .. over the whole block. -/
theorem wpList_store_blk (hgd : o.guard = none) (ty : TypeId) (x y : Operand) (ho : o.op = .store ty x y) (g : Nat) (hx : a.eval x = .pointer (some ⟨g, 0, none⟩))
    (vs : Array Value) (hy : a.eval y = .agg vs) (t : TypeId) (cs : Array Value) (n : Nat) (hg : Blk w g t cs)
    (hi : (P.info? ty).map (·.size) = some n) (hv : vs.size = n) (hn : cs.size = n) (h1 : ∀ v ∈ vs.toList, v.oneCell' = true)
    (hdst : o.dst = none) (h : ∀ w', w' = w.setRow g vs → wpList P ops Q rest a w') : wpList P ops Q (o :: rest) a w :=
  wpList_store_part hgd ty x y ho g 0 hx vs hy t cs n hg hi hv (by omega) h1 hdst fun w' hw' => h w' (by
    rw [hw']
    congr 1
    apply Array.ext'
    simp [splice, hv, ← hn])

/-- A new variable of a type whose zero value is known. -/
theorem wpList_alloc_zero (hgd : o.guard = none) (ty : TypeId) (ho : o.op = .alloc ty) (z : Value) (hz : (P.info? ty).map (·.zero) = some (some z))
    (h : wpList P ops Q rest (a.put o.dst (.pointer (some ⟨w.heap.size, 0, none⟩))) (w.alloc (.cells z.cells ty))) : wpList P ops Q (o :: rest) a w :=
  wpList_plain hgd fun K hK => by
    cases hq : P.info? ty with
    | none => simp [hq] at hz
    | some i =>
      have hz' : i.zero = some z := by simpa [hq] using hz
      unfold Oper.wp execOp
      simp only [ho, Instr.alloc, zeroValue, typeInfo, newVar, newRow, newObj, Sem.run_bind, Sem.run_pure, Result.andThen_ok, run_program, hq, hz']
      exact hK _ _ h

/-- copy into a block that is known whole, from memory that reads as cs; the world behind it gets a name. -/
theorem wpList_copy_named (hgd : o.guard = none) (d s : Operand) (dT sT : TypeId)
    (ho : o.op = .call { callee := .builtin .copy, args := #[d, s], argTypes := #[dT, sT] }) (elem : TypeId) (hu : P.underlying dT = some (.slice elem)) (hsz : (P.info? elem).map (·.size) = some 1)
    (g off dLen dCap : Nat) (ad : Addr) (sLen sCap : Nat) (hd : a.eval d = .slice (some ⟨g, off, none⟩) dLen dCap) (hs : a.eval s = .slice (some ad) sLen sCap)
    (cur : Array Value) (t : TypeId) (hg : Blk w g t cur) (cs : List Value) (p : Nat) (hp : cs.length = p) (hn : p = min sLen dLen)
    (hsrc : ∀ j v, cs[j]? = some v → w.cell? (ad.add j) = some v) (hfit : off + p ≤ cur.size) (h1 : ∀ v ∈ cs, v.oneCell' = true)
    (h : ∀ w', w' = w.setRow g (cur.toList.take off ++ (cs ++ cur.toList.drop (off + cs.length))).toArray → wpList P ops Q rest (a.put o.dst (.int .i64 (p : Nat))) w') : wpList P ops Q (o :: rest) a w :=
  wpList_copy_own hgd d s dT sT ho elem hu hsz g off dLen dCap ad sLen sCap hd hs cur t hg cs (hp.trans hn) hsrc (by rw [hp]; exact hfit) h1 (by rw [show goInt cs.length = .int .i64 (p : Nat) by rw [← hp]; rfl]; exact h _ rfl)

/-! ### Equality of arrays -/
theorem run_equalIn_array (w : World) (d : Nat) {t e : TypeId} {n sz : Nat} (xs ys : Array Value) (f : Nat → Bool) (ht : P.underlying t = some (.array n e)) (hs : (P.info? e).map (·.size) = some sz)
    (hf : ∀ i, i < n → (do let a ← part e xs (i * sz); let b ← part e ys (i * sz); Op.equalIn d e a b : Sem Bool).run P w = .ok (f i) w) :
    (Op.equalIn (d + 1) t (.agg xs) (.agg ys)).run P w = .ok ((List.range n).all f) w := by
  simp only [Op.equalIn, Sem.run_bind, run_underlying ht, Result.andThen_ok, run_sizeOf hs]
  rw [Std.Legacy.Range.forIn_eq_forIn_range']
  simp only [Std.Legacy.Range.size, Nat.sub_zero, Nat.add_sub_cancel, Nat.div_one]
  rw [List.range_eq_range']
  have key : ∀ (m k : Nat), k + m ≤ n → (forIn (List.range' k m) ((none, ()) : Option Bool × Unit) (fun i _ => do
        let a ← part e xs (i * sz)
        let b ← part e ys (i * sz)
        let r ← Op.equalIn d e a b
        if (!r) = true then pure (ForInStep.done (some false, ())) else pure (ForInStep.yield (none, ()))) : Sem (Option Bool × Unit)).run P w =
      .ok (if (List.range' k m).all f then (none, ()) else (some false, ())) w := by
    intro m
    induction m with
    | zero => intro k _; simp
    | succ m ih =>
      intro k hk
      have h1 := hf k (by omega)
      simp only [Sem.run_bind] at h1
      simp only [List.range'_succ, List.forIn_cons, Sem.run_bind, List.all_cons]
      generalize (part e xs (k * sz)).run P w = r1 at h1 ⊢
      cases r1 with
      | halt x w1 => simp [Result.andThen] at h1
      | ok a w1 =>
        simp only [Result.andThen_ok] at h1 ⊢
        generalize (part e ys (k * sz)).run P w1 = r2 at h1 ⊢
        cases r2 with
        | halt x w2 => simp [Result.andThen] at h1
        | ok b w2 =>
          simp only [Result.andThen_ok] at h1 ⊢
          rw [h1]
          simp only [Result.andThen_ok]
          cases hfk : f k
          · simp [Sem.run_pure]
          · simp only [Bool.not_true, Bool.false_eq_true, if_false, Sem.run_pure, Result.andThen_ok, Bool.true_and]
            exact ih (k + 1) (by omega)
  rw [key n 0 (by omega)]
  cases h : (List.range' 0 n).all f <;> simp
theorem run_part_num (w : World) {e : TypeId} {dd : TypeDesc} (hE : P.underlying e = some dd) (hd : isRow dd = false) (k : IntKind) (l : List Nat) (i : Nat) (hi : i < l.length) :
    (part e (cellsOf k l) (i * 1)).run P w = .ok (.int k (l.getD i 0 : Nat)) w := by
  have hg := cellsOf_get k l i hi
  simp [part, Sem.run_bind, run_isAgg_no hE hd, hg]
theorem all_getD (l m : List Nat) (h : l.length = m.length) : ((List.range l.length).all fun i => ((l.getD i 0 : Nat) : Int) == ((m.getD i 0 : Nat) : Int)) = (l == m) := by
  rw [Bool.eq_iff_iff]
  simp only [List.all_eq_true, List.mem_range, beq_iff_eq, Int.ofNat_inj]
  constructor
  · intro hh
    apply List.ext_getElem h
    intro i h1 h2
    have := hh i h1
    simpa [h1, h2] using this
  · rintro rfl i _
    rfl
/-- Two arrays of numbers. -/
theorem run_equalIn_nums (w : World) (d : Nat) {t e : TypeId} {n : Nat} {k : IntKind} (l m : List Nat) (ht : P.underlying t = some (.array n e)) (he : P.underlying e = some (.int k))
    (hs : (P.info? e).map (·.size) = some 1) (hl : l.length = n) (hm : m.length = n) :
    (Op.equalIn (d + 2) t (.agg (cellsOf k l)) (.agg (cellsOf k m))).run P w = .ok (l == m) w := by
  rw [run_equalIn_array w (d + 1) (cellsOf k l) (cellsOf k m) (fun i => ((l.getD i 0 : Nat) : Int) == ((m.getD i 0 : Nat) : Int)) ht hs]
  · rw [← all_getD l m (by omega), hl]
  · intro i hi
    simp only [Sem.run_bind, run_part_num w he rfl k l i (by omega), run_part_num w he rfl k m i (by omega), Result.andThen_ok, run_equalIn_int w d e k k _ _ he]
theorem run_eql_nums (w : World) {t e : TypeId} {n : Nat} {k : IntKind} (l m : List Nat) (ht : P.underlying t = some (.array n e)) (he : P.underlying e = some (.int k))
    (hs : (P.info? e).map (·.size) = some 1) (hl : l.length = n) (hm : m.length = n) :
    (binOp .eql t (.agg (cellsOf k l)) (.agg (cellsOf k m))).run P w = .ok (.bool (l == m)) w := by
  rw [run_eql_struct, run_equalIn_nums w 9998 l m ht he hs hl hm]
  rfl
theorem run_neq_nums (w : World) {t e : TypeId} {n : Nat} {k : IntKind} (l m : List Nat) (ht : P.underlying t = some (.array n e)) (he : P.underlying e = some (.int k))
    (hs : (P.info? e).map (·.size) = some 1) (hl : l.length = n) (hm : m.length = n) :
    (binOp .neq t (.agg (cellsOf k l)) (.agg (cellsOf k m))).run P w = .ok (.bool (!(l == m))) w := by
  rw [run_neq_struct, run_equalIn_nums w 9998 l m ht he hs hl hm]
  rfl
end
end Go.Bul
