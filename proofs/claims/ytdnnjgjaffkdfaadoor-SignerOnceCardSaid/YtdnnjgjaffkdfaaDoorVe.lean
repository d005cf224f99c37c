/- Operations on whole rows: a struct or an array loaded from a block, stored into one, laid anew; equality of arrays of numbers. Contract of sha256.load: the sixteen words of a block of 64 bytes. Condition: the elements are bytes. Contract of sha256's words.digest: the bytes of a state. Condition: the words are below 2^32. A Hash in memory: what its cells say of the bytes that were written; slices that read as bytes. append onto a row of the call's own, from whatever source; what an owned row reads as. -/
import Derived.Test.YtdnnjgjaffkdfaaDoorVc
import Derived.Laws.CopyOwn
import Derived.Laws.StructEq
import Derived.WalkKit
import Derived.Test.YtdnnjgjaffkdfaaDoorProc
import Derived.LoopN
import Derived.Maps.AppendAt
namespace Go.Bul
open Go Go.RowKit
section
variable {P : Program} {w : World} {ops : Array Oper} {rest : List Oper} {o : Oper} {a : Act} {Q : Exit → Act → World → Prop}

def isRow : TypeDesc → Bool
  | .struct _ | .array _ _ => true
  | _ => false

theorem run_isAgg {ty : TypeId} {d : TypeDesc} (hu : P.underlying ty = some d) (hd : isRow d = true) (w : World) : (isAgg ty).run P w = .ok true w := by
  unfold isAgg
  rw [Sem.run_bind, run_underlying hu w]
  cases d <;> simp_all [isRow]
theorem run_isAgg_no {ty : TypeId} {d : TypeDesc} (hu : P.underlying ty = some d) (hd : isRow d = false) (w : World) : (isAgg ty).run P w = .ok false w := by
  unfold isAgg
  rw [Sem.run_bind, run_underlying hu w]
  cases d <;> simp_all [isRow]
theorem run_sizeOf {ty : TypeId} {n : Nat} (hi : (P.info? ty).map (·.size) = some n) (w : World) : (sizeOf ty).run P w = .ok n w := by
  cases hq : P.info? ty with
  | none => simp [hq] at hi
  | some i =>
    have : i.size = n := by simpa [hq] using hi
    simp [sizeOf, typeInfo, hq, this]
theorem addr_at (g o j : Nat) : (⟨g, o, none⟩ : Addr).add j = ⟨g, o + j, none⟩ := by
  unfold Addr.add
  split
  · rename_i h; subst h; rfl
  · rfl

/-- A struct or an array, read out of a block from a place on. -/
theorem run_load_part (w : World) (g off : Nat) (t ty : TypeId) (cs : Array Value) (n : Nat) (d : TypeDesc) (hg : Blk w g t cs) (hu : P.underlying ty = some d) (hd : isRow d = true)
    (hi : (P.info? ty).map (·.size) = some n) (hn : off + n ≤ cs.size) : (loadVar ty ⟨g, off, none⟩).run P w = .ok (.agg (cs.extract off (off + n))) w := by
  have hl : (loadCells ⟨g, off, none⟩ (cs.extract off (off + n)).toList.length).run P w = .ok (cs.extract off (off + n)).toList.toArray w :=
    run_loadCells_list (P := P) w ⟨g, off, none⟩ (cs.extract off (off + n)).toList (fun j v hv => by
      rw [addr_at, hg.cell]
      simp only [Array.getElem?_toList] at hv
      rw [Array.getElem?_extract] at hv
      split at hv
      · exact hv
      · cases hv)
  have hlen : (cs.extract off (off + n)).toList.length = n := by simp; omega
  rw [hlen] at hl
  simp only [Array.toArray_toList] at hl
  simp [loadVar, Sem.run_bind, run_isAgg hu hd, run_sizeOf hi, hl]

theorem wpList_load_part (hgd : o.guard = none) (ty : TypeId) (x : Operand) (ho : o.op = .load ty x) (g off : Nat) (hx : a.eval x = .pointer (some ⟨g, off, none⟩))
    (t : TypeId) (cs : Array Value) (n : Nat) (d : TypeDesc) (hg : Blk w g t cs) (hu : P.underlying ty = some d) (hd : isRow d = true)
    (hi : (P.info? ty).map (·.size) = some n) (hn : off + n ≤ cs.size) (X : Array Value) (hX : cs.extract off (off + n) = X)
    (h : wpList P ops Q rest (a.put o.dst (.agg X)) w) : wpList P ops Q (o :: rest) a w :=
  wpList_plain hgd fun K hK => by
    unfold Oper.wp execOp
    simp only [ho, hx, Instr.loadAt, Instr.sureAddr, Sem.run_bind, Sem.run_pure, Result.andThen_ok, run_load_part w g off t ty cs n d hg hu hd hi hn, hX]
    exact hK _ _ h
/-- .. the whole block. -/
theorem wpList_load_blk (hgd : o.guard = none) (ty : TypeId) (x : Operand) (ho : o.op = .load ty x) (g : Nat) (hx : a.eval x = .pointer (some ⟨g, 0, none⟩))
    (t : TypeId) (cs : Array Value) (n : Nat) (d : TypeDesc) (hg : Blk w g t cs) (hu : P.underlying ty = some d) (hd : isRow d = true)
    (hi : (P.info? ty).map (·.size) = some n) (hn : cs.size = n)
    (h : wpList P ops Q rest (a.put o.dst (.agg cs)) w) : wpList P ops Q (o :: rest) a w :=
  wpList_load_part hgd ty x ho g 0 hx t cs n d hg hu hd hi (by omega) cs (by simp [← hn]) h

theorem Blk.row {g : Nat} {t : TypeId} {cs : Array Value} (h : Blk w g t cs) (X : Array Value) : Blk (w.setRow g X) g t X := setRow_heap w g cs X t (0, 0) h
theorem Blk.rowFar {g g' : Nat} {t : TypeId} {cs : Array Value} (h : Blk w g' t cs) (hne : g' ≠ g) (X : Array Value) : Blk (w.setRow g X) g' t cs := (setRow_other w g g' X hne).trans h

/-- .. in a quiet walk. -/
theorem quietAt_load {C : World → Prop} (ty : TypeId) (x : Operand) (ho : o.op = .load ty x) (g off : Nat) (hx : a.eval x = .pointer (some ⟨g, off, none⟩))
    (t : TypeId) (cs : Array Value) (n : Nat) (d : TypeDesc) (hg : Blk w g t cs) (hu : P.underlying ty = some d) (hd : isRow d = true)
    (hi : (P.info? ty).map (·.size) = some n) (hn : off + n ≤ cs.size) (X : Array Value) (hX : cs.extract off (off + n) = X) : o.quietAt P a C w (.agg X) := by
  unfold Oper.quietAt execOp
  simp only [ho, hx, Instr.loadAt, Instr.sureAddr, Sem.run_bind, Sem.run_pure, Result.andThen_ok, run_load_part w g off t ty cs n d hg hu hd hi hn, hX]
  exact ⟨rfl, rfl⟩

/-- A struct or an array, written into a block from a place on. -/
theorem wpList_store_part (hgd : o.guard = none) (ty : TypeId) (x y : Operand) (ho : o.op = .store ty x y) (g off : Nat) (hx : a.eval x = .pointer (some ⟨g, off, none⟩))
    (vs : Array Value) (hy : a.eval y = .agg vs) (t : TypeId) (cs : Array Value) (n : Nat) (hg : Blk w g t cs)
    (hi : (P.info? ty).map (·.size) = some n) (hv : vs.size = n) (hn : off + n ≤ cs.size) (h1 : ∀ v ∈ vs.toList, v.oneCell' = true)
    (hdst : o.dst = none) (h : ∀ w', w' = w.setRow g (splice cs.toList off vs.toList).toArray → wpList P ops Q rest a w') : wpList P ops Q (o :: rest) a w :=
  wpList_plain hgd fun K hK => by
    have hs := run_storeCells_at P g off t vs.toList 0 cs w hg (by simpa [hv] using hn) h1
    unfold Oper.wp execOp
    simp only [ho, hx, hy, Instr.storeAt, Instr.sureAddr, storeVar, Value.cells, Sem.run_bind, Sem.run_pure, Result.andThen_ok, run_sizeOf hi, hv, ne_eq, not_true_eq_false, if_false, Nat.add_zero] at hs ⊢
    rw [hs]
    simp only [Array.length_toList, Result.andThen_ok]
    show K (a.put o.dst undef) _
    rw [hdst]
    exact hK _ _ (h _ (by simp [splice]))
/-- .. over the whole block. -/
theorem wpList_store_blk (hgd : o.guard = none) (ty : TypeId) (x y : Operand) (ho : o.op = .store ty x y) (g : Nat) (hx : a.eval x = .pointer (some ⟨g, 0, none⟩))
    (vs : Array Value) (hy : a.eval y = .agg vs) (t : TypeId) (cs : Array Value) (n : Nat) (hg : Blk w g t cs)
    (hi : (P.info? ty).map (·.size) = some n) (hv : vs.size = n) (hn : cs.size = n) (h1 : ∀ v ∈ vs.toList, v.oneCell' = true)
    (hdst : o.dst = none) (h : ∀ w', w' = w.setRow g vs → wpList P ops Q rest a w') : wpList P ops Q (o :: rest) a w :=
  wpList_store_part hgd ty x y ho g 0 hx vs hy t cs n hg hi hv (by omega) h1 hdst fun w' hw' => h w' (by
    rw [hw']
    congr 1
    apply Array.ext'
    simp [splice, hv, ← hn])

/-- A new variable of a type whose zero value is known. -/
theorem wpList_alloc_zero (hgd : o.guard = none) (ty : TypeId) (ho : o.op = .alloc ty) (z : Value) (hz : (P.info? ty).map (·.zero) = some (some z))
    (h : wpList P ops Q rest (a.put o.dst (.pointer (some ⟨w.heap.size, 0, none⟩))) (w.alloc (.cells z.cells ty))) : wpList P ops Q (o :: rest) a w :=
  wpList_plain hgd fun K hK => by
    cases hq : P.info? ty with
    | none => simp [hq] at hz
    | some i =>
      have hz' : i.zero = some z := by simpa [hq] using hz
      unfold Oper.wp execOp
      simp only [ho, Instr.alloc, zeroValue, typeInfo, newVar, newRow, newObj, Sem.run_bind, Sem.run_pure, Result.andThen_ok, run_program, hq, hz']
      exact hK _ _ h

/-- copy into a block that is known whole, from memory that reads as cs; the world behind it gets a name. -/
theorem wpList_copy_named (hgd : o.guard = none) (d s : Operand) (dT sT : TypeId)
    (ho : o.op = .call { callee := .builtin .copy, args := #[d, s], argTypes := #[dT, sT] }) (elem : TypeId) (hu : P.underlying dT = some (.slice elem)) (hsz : (P.info? elem).map (·.size) = some 1)
    (g off dLen dCap : Nat) (ad : Addr) (sLen sCap : Nat) (hd : a.eval d = .slice (some ⟨g, off, none⟩) dLen dCap) (hs : a.eval s = .slice (some ad) sLen sCap)
    (cur : Array Value) (t : TypeId) (hg : Blk w g t cur) (cs : List Value) (p : Nat) (hp : cs.length = p) (hn : p = min sLen dLen)
    (hsrc : ∀ j v, cs[j]? = some v → w.cell? (ad.add j) = some v) (hfit : off + p ≤ cur.size) (h1 : ∀ v ∈ cs, v.oneCell' = true)
    (h : ∀ w', w' = w.setRow g (cur.toList.take off ++ (cs ++ cur.toList.drop (off + cs.length))).toArray → wpList P ops Q rest (a.put o.dst (.int .i64 (p : Nat))) w') : wpList P ops Q (o :: rest) a w :=
  wpList_copy_own hgd d s dT sT ho elem hu hsz g off dLen dCap ad sLen sCap hd hs cur t hg cs (hp.trans hn) hsrc (by rw [hp]; exact hfit) h1 (by rw [show goInt cs.length = .int .i64 (p : Nat) by rw [← hp]; rfl]; exact h _ rfl)

/-! ### Equality of arrays -/
theorem run_equalIn_array (w : World) (d : Nat) {t e : TypeId} {n sz : Nat} (xs ys : Array Value) (f : Nat → Bool) (ht : P.underlying t = some (.array n e)) (hs : (P.info? e).map (·.size) = some sz)
    (hf : ∀ i, i < n → (do let a ← part e xs (i * sz); let b ← part e ys (i * sz); Op.equalIn d e a b : Sem Bool).run P w = .ok (f i) w) :
    (Op.equalIn (d + 1) t (.agg xs) (.agg ys)).run P w = .ok ((List.range n).all f) w := by
  simp only [Op.equalIn, Sem.run_bind, run_underlying ht, Result.andThen_ok, run_sizeOf hs]
  rw [Std.Legacy.Range.forIn_eq_forIn_range']
  simp only [Std.Legacy.Range.size, Nat.sub_zero, Nat.add_sub_cancel, Nat.div_one]
  rw [List.range_eq_range']
  have key : ∀ (m k : Nat), k + m ≤ n → (forIn (List.range' k m) ((none, ()) : Option Bool × Unit) (fun i _ => do
        let a ← part e xs (i * sz)
        let b ← part e ys (i * sz)
        let r ← Op.equalIn d e a b
        if (!r) = true then pure (ForInStep.done (some false, ())) else pure (ForInStep.yield (none, ()))) : Sem (Option Bool × Unit)).run P w =
      .ok (if (List.range' k m).all f then (none, ()) else (some false, ())) w := by
    intro m
    induction m with
    | zero => intro k _; simp
    | succ m ih =>
      intro k hk
      have h1 := hf k (by omega)
      simp only [Sem.run_bind] at h1
      simp only [List.range'_succ, List.forIn_cons, Sem.run_bind, List.all_cons]
      generalize (part e xs (k * sz)).run P w = r1 at h1 ⊢
      cases r1 with
      | halt x w1 => simp [Result.andThen] at h1
      | ok a w1 =>
        simp only [Result.andThen_ok] at h1 ⊢
        generalize (part e ys (k * sz)).run P w1 = r2 at h1 ⊢
        cases r2 with
        | halt x w2 => simp [Result.andThen] at h1
        | ok b w2 =>
          simp only [Result.andThen_ok] at h1 ⊢
          rw [h1]
          simp only [Result.andThen_ok]
          cases hfk : f k
          · simp [Sem.run_pure]
          · simp only [Bool.not_true, Bool.false_eq_true, if_false, Sem.run_pure, Result.andThen_ok, Bool.true_and]
            exact ih (k + 1) (by omega)
  rw [key n 0 (by omega)]
  cases h : (List.range' 0 n).all f <;> simp
theorem run_part_num (w : World) {e : TypeId} {dd : TypeDesc} (hE : P.underlying e = some dd) (hd : isRow dd = false) (k : IntKind) (l : List Nat) (i : Nat) (hi : i < l.length) :
    (part e (cellsOf k l) (i * 1)).run P w = .ok (.int k (l.getD i 0 : Nat)) w := by
  have hg := cellsOf_get k l i hi
  simp [part, Sem.run_bind, run_isAgg_no hE hd, hg]
theorem all_getD (l m : List Nat) (h : l.length = m.length) : ((List.range l.length).all fun i => ((l.getD i 0 : Nat) : Int) == ((m.getD i 0 : Nat) : Int)) = (l == m) := by
  rw [Bool.eq_iff_iff]
  simp only [List.all_eq_true, List.mem_range, beq_iff_eq, Int.ofNat_inj]
  constructor
  · intro hh
    apply List.ext_getElem h
    intro i h1 h2
    have := hh i h1
    simpa [h1, h2] using this
  · rintro rfl i _
    rfl
/-- Two arrays of numbers. -/
theorem run_equalIn_nums (w : World) (d : Nat) {t e : TypeId} {n : Nat} {k : IntKind} (l m : List Nat) (ht : P.underlying t = some (.array n e)) (he : P.underlying e = some (.int k))
    (hs : (P.info? e).map (·.size) = some 1) (hl : l.length = n) (hm : m.length = n) :
    (Op.equalIn (d + 2) t (.agg (cellsOf k l)) (.agg (cellsOf k m))).run P w = .ok (l == m) w := by
  rw [run_equalIn_array w (d + 1) (cellsOf k l) (cellsOf k m) (fun i => ((l.getD i 0 : Nat) : Int) == ((m.getD i 0 : Nat) : Int)) ht hs]
  · rw [← all_getD l m (by omega), hl]
  · intro i hi
    simp only [Sem.run_bind, run_part_num w he rfl k l i (by omega), run_part_num w he rfl k m i (by omega), Result.andThen_ok, run_equalIn_int w d e k k _ _ he]
end
end Go.Bul
namespace Go.Proofs.YtdnnjgjaffkdfaaDoor
open Go Go.RowKit Go.Bul
/-- What a word holds after k of its bytes. -/
def pw (b : List Nat) (j : Nat) : Nat → Nat
  | 0 => 0
  | k + 1 => pw b j k * 256 + b.getD (4 * j + k) 0
theorem pw_lt {b : List Nat} (hb : Bytes b) (j : Nat) : ∀ k, pw b j k < 256 ^ k
  | 0 => by simp [pw]
  | k + 1 => by
    have h1 := pw_lt hb j k
    have h2 := hb.getD (4 * j + k)
    rw [pw, Nat.pow_succ]
    omega
theorem pw_four (b : List Nat) (j : Nat) : pw b j 4 = word b j := by simp [pw, word]
def LoadInv (b : List Nat) (i : Nat) (l : List Nat) : Prop := l.length = 16 ∧ ∀ j, j < 16 → l.getD j 0 = pw b j (min (i - 4 * j) 4)
theorem LoadInv.start (b : List Nat) : LoadInv b 0 (List.replicate 16 0) := by
  refine ⟨by simp, fun j hj => ?_⟩
  rw [List.getD_eq_getElem?_getD, List.getElem?_replicate, if_pos hj]
  simp [pw]
theorem LoadInv.next {b : List Nat} {i : Nat} {l : List Nat} (h : LoadInv b i l) (hi : i < 64) : LoadInv b (i + 1) (l.set (i / 4) (l.getD (i / 4) 0 * 256 + b.getD i 0)) := by
  refine ⟨by simp [h.1], fun j hj => ?_⟩
  rw [getD_set _ _ _ _ (by rw [h.1]; omega)]
  split
  · rename_i e
    subst e
    rw [h.2 _ (by omega), show min (i + 1 - 4 * (i / 4)) 4 = min (i - 4 * (i / 4)) 4 + 1 by omega, pw, show 4 * (i / 4) + min (i - 4 * (i / 4)) 4 = i by omega]
  · rename_i e
    rw [h.2 j hj, show min (i + 1 - 4 * j) 4 = min (i - 4 * j) 4 by omega]
theorem or_byte (x c : Nat) (hx : x * 256 < 4294967296) (hc : c < 256) (q : Int) (hq : q = (x : Int) * 256) : bits .or .u32 q ↑c = ((x * 256 + c : Nat) : Int) := by
  have h : q = ((x * 256 : Nat) : Int) := by rw [hq]; omega
  rw [h, u32_or_nat _ _ hx (by omega)]
  have := Nat.shiftLeft_add_eq_or_of_lt (i := 8) (b := c) (by omega) x
  rw [Nat.shiftLeft_eq] at this
  rw [← this]
structure LoadW (W : World) (b : List Nat) (i : Nat) (w : World) : Prop where
  win : ∃ l, LoadInv b i l ∧ Blk w (W.heap.size + 1 + 1) 201 (cellsOf .u32 l)
  r : ∃ l : List Nat, l.length = 16 ∧ Blk w (W.heap.size + 1) 201 (cellsOf .u32 l)
  old : Below W.heap.size W w
theorem zero_w16 : (Tryd.prog.info? 201).map (·.zero) = some (some (.agg (cellsOf .u32 (List.replicate 16 0)))) := by kernel_rfl
theorem size_w16 : (Tryd.prog.info? 201).map (·.size) = some 16 := by kernel_rfl
theorem size_b64 : (Tryd.prog.info? 189).map (·.size) = some 64 := by kernel_rfl
theorem size_u8 : (Tryd.prog.info? 5).map (·.size) = some 1 := by kernel_rfl
theorem size_u32 : (Tryd.prog.info? 133).map (·.size) = some 1 := by kernel_rfl
set_option maxHeartbeats 1000000 in
theorem load_any (b : List Nat) (w : World) (hb : Bytes b) (hl : b.length = 64) :
    Calls Tryd.prog 131 #[.agg (cellsOf .u8 b)] w fun e w' => e = .returned (.agg (cellsOf .u32 ((List.range 16).map (word b)))) ∧ Below w.heap.size w w' := by
  have HL := Lib.hid hl
  clear hl
  go_enter Tryd.func131, Tryd.ntmps131
  go_wp2_with (first
    | (with_reducible refine wpList_alloc_zero rfl 201 rfl _ zero_w16 ?_)
    | (with_reducible refine wpList_load_blk rfl 189 (.tmp 1) rfl w.heap.size rfl _ _ 64 _ (((Blk.new' w _ _ _ rfl).alloc _).alloc _) Tryd.underlying189 rfl size_b64 ((cellsOf_size _ _).trans HL.out) ?_))
  go_loopw [7] (fun i wr => ∃ k : Nat, k ≤ 64 ∧ i = .int .i64 k ∧ LoadW w b k wr) (fun i _ => 64 - (intOf i).toNat)
  case atStart =>
    refine ⟨0, by omega, rfl, ⟨_, LoadInv.start b, Blk.new' _ _ _ _ (by simp)⟩, ⟨_, by simp, (Blk.new' _ _ (cellsOf .u32 (List.replicate 16 0)) _ (by simp)).alloc _⟩, ?_⟩
    repeat' (first | with_reducible exact Below.refl _ _ | with_reducible assumption | with_reducible refine Below.setCell ?_ ?_ _ | with_reducible refine below_drewN ?_ _ | with_reducible refine Below.drew ?_ | with_reducible refine Below.alloc ?_ ?_ _)
    all_goals first | (simp; done) | (simp; omega) | omega
  case round =>
    obtain ⟨k, hk, rfl, hI⟩ := hrel
    obtain ⟨⟨l, hl, hW⟩, ⟨lr, hlr, hR⟩, hold⟩ := hI
    by_cases hlt : k < 64
    · obtain ⟨c, hc⟩ : ∃ c, c = b.getD k 0 := ⟨_, rfl⟩
      obtain ⟨x, hx⟩ : ∃ x, x = l.getD (k / 4) 0 := ⟨_, rfl⟩
      obtain ⟨j, hj⟩ : ∃ j, j = k / 4 := ⟨_, rfl⟩
      have ix : ∀ W, (Instr.index 189 (.agg (cellsOf .u8 b)) (.int .i64 (k : Nat))).run Tryd.prog W = .ok (.int .u8 (c : Nat)) W := fun W => by
        rw [hc]; exact run_index_num Tryd.underlying189 Tryd.underlying5 rfl size_u8 b k HL.out hlt W
      have hc' : c < 256 := by rw [hc]; exact hb.getD _
      have hx' : x * 256 < 4294967296 := by
        rw [hx, hl.2 _ (by omega)]
        have := pw_lt hb (k / 4) (min (k - 4 * (k / 4)) 4)
        have h3 : min (k - 4 * (k / 4)) 4 ≤ 3 := by omega
        have := Nat.pow_le_pow_right (n := 256) (by omega) h3
        omega
      have ej : (k : Int) / 4 = (j : Int) := by omega
      have bj : (j : Int) < 16 := by omega
      have cj : wr.cell? ⟨w.heap.size + 1 + 1, j, none⟩ = some (.int .u32 (x : Nat)) := by rw [hW.num (by rw [hl.1]; omega), hj, hx]
      have fj : wr.frozen? ⟨w.heap.size + 1 + 1, j, none⟩ = false := hW.free _
      have hor := or_byte x c hx' hc' _ rfl
      have H := Lib.hid (And.intro hc (And.intro hx hj))
      clear hc hx hj
      go_wp2_with fail
      go_roundw
      case measure => simp [intOf]; omega
      obtain ⟨hc, hx, hj⟩ := H.out
      refine ⟨k + 1, by omega, by go_num, ⟨_, hl.next hlt, ?_⟩, ⟨lr, hlr, hR.far (by dsimp only; omega) _⟩, hold.setCell (by dsimp only; omega) _⟩
      rw [← hj, ← hc, ← cellsOf_set, show l.getD j 0 = x by rw [hx, hj]]
      exact hW.set _ _
    · obtain rfl : k = 64 := by omega
      have hlast : l = (List.range 16).map (word b) := by
        apply List.ext_getElem (by simp [hl.1])
        intro i h1 h2
        have hi : i < 16 := by rw [hl.1] at h1; exact h1
        have := hl.2 i hi
        rw [show min (64 - 4 * i) 4 = 4 by omega, pw_four] at this
        simpa [h1] using this
      rw [hlast] at hW
      go_wp2_with (first
        | (with_reducible refine wpList_load_blk rfl 201 (.tmp 3) rfl _ rfl _ _ 16 _ hW Tryd.underlying201 rfl size_w16 (by simp) ?_)
        | ((with_reducible refine wpList_store_blk rfl 201 (.tmp 2) (.tmp 23) rfl _ rfl _ rfl _ _ 16 hR size_w16 (by simp) (by simp [hlr]) (vals_one _ _) rfl ?_); intro w2 hw2))
      exact bodyPost_ret (results_cell_row rfl _ _ (w.heap.size + 1) _ _ _ _ rfl (by rw [hw2]; exact hR.row _) Tryd.underlying201 rfl (by rw [size_w16]; simp)) rfl ⟨rfl, by rw [hw2]; exact below_setRow hold (by omega) _⟩
end Go.Proofs.YtdnnjgjaffkdfaaDoor
namespace Go.Proofs.YtdnnjgjaffkdfaaDoor
open Go Go.RowKit Go.Bul
theorem zero_dig : (Tryd.prog.info? 142).map (·.zero) = some (some (.agg (cellsOf .u8 (List.replicate 32 0)))) := by kernel_rfl
theorem size_dig : (Tryd.prog.info? 142).map (·.size) = some 32 := by kernel_rfl
theorem out_getD (v : Bul.St) (i : Nat) (hi : i < 8) : v.out.getD (4 * i) 0 = v.list.getD i 0 / 16777216 % 256 ∧ v.out.getD (4 * i + 1) 0 = v.list.getD i 0 / 65536 % 256 ∧ v.out.getD (4 * i + 2) 0 = v.list.getD i 0 / 256 % 256 ∧ v.out.getD (4 * i + 3) 0 = v.list.getD i 0 % 256 := by
  rw [Bul.St.out_eq]
  rcases (show i = 0 ∨ i = 1 ∨ i = 2 ∨ i = 3 ∨ i = 4 ∨ i = 5 ∨ i = 6 ∨ i = 7 by omega) with rfl | rfl | rfl | rfl | rfl | rfl | rfl | rfl <;> exact ⟨rfl, rfl, rfl, rfl⟩
def DigInv (v : Bul.St) (i : Nat) (l : List Nat) : Prop := l.length = 32 ∧ ∀ j, j < 4 * i → l.getD j 0 = v.out.getD j 0
theorem DigInv.next {v : Bul.St} {i : Nat} {l : List Nat} (h : DigInv v i l) (hi : i < 8) (x : Nat) (hx : x = v.list.getD i 0) (l' : List Nat)
    (hl : l' = (((l.set (4 * i) (x / 16777216 % 256)).set (4 * i + 1) (x / 65536 % 256)).set (4 * i + 2) (x / 256 % 256)).set (4 * i + 3) (x % 256)) : DigInv v (i + 1) l' := by
  subst hl
  have hlen := h.1
  have ho := out_getD v i hi
  rw [← hx] at ho
  refine ⟨by simp [hlen], fun j hj => ?_⟩
  rw [getD_set _ _ _ _ (by simp [hlen]; omega), getD_set _ _ _ _ (by simp [hlen]; omega), getD_set _ _ _ _ (by simp [hlen]; omega), getD_set _ _ _ _ (by omega)]
  by_cases h3 : 4 * i + 3 = j
  · rw [if_pos h3, ← h3]; exact ho.2.2.2.symm
  rw [if_neg h3]
  by_cases h2 : 4 * i + 2 = j
  · rw [if_pos h2, ← h2]; exact ho.2.2.1.symm
  rw [if_neg h2]
  by_cases h1 : 4 * i + 1 = j
  · rw [if_pos h1, ← h1]; exact ho.2.1.symm
  rw [if_neg h1]
  by_cases h0 : 4 * i = j
  · rw [if_pos h0, ← h0]; exact ho.1.symm
  rw [if_neg h0]
  exact h.2 j (by omega)
theorem DigInv.done {v : Bul.St} {l : List Nat} (h : DigInv v 8 l) : l = v.out := by
  apply List.ext_getElem (by rw [h.1, Bul.out_length])
  intro i h1 h2
  have := h.2 i (by rw [h.1] at h1; omega)
  simpa [h1, h2] using this
structure DigW (W : World) (v : Bul.St) (i : Nat) (w : World) : Prop where
  d : ∃ l, DigInv v i l ∧ Blk w (W.heap.size + 1 + 1) 142 (cellsOf .u8 l)
  r : ∃ l : List Nat, l.length = 32 ∧ Blk w (W.heap.size + 1) 142 (cellsOf .u8 l)
  old : Below W.heap.size W w
set_option maxRecDepth 20000 in
set_option maxHeartbeats 1000000 in
theorem digest_any (v : Bul.St) (w : World) (hv : v.Ok) :
    Calls Tryd.prog 132 #[stv v] w fun e w' => e = .returned (.agg (cellsOf .u8 v.out)) ∧ Below w.heap.size w w' := by
  rw [stv_eq v]
  go_enter Tryd.func132, Tryd.ntmps132
  go_wp2_with (first
    | (with_reducible refine wpList_alloc_zero rfl 142 rfl _ zero_dig ?_))
  go_loopw [24] (fun i wr => ∃ k : Nat, k ≤ 8 ∧ i = .int .i64 k ∧ DigW w v k wr) (fun i _ => 8 - (intOf i).toNat)
  case atStart =>
    refine ⟨0, by omega, rfl, ⟨_, ⟨by simp, fun j hj => by omega⟩, Blk.new' _ _ (cellsOf .u8 (List.replicate 32 0)) _ (by simp)⟩, ⟨_, by simp, (Blk.new' _ _ (cellsOf .u8 (List.replicate 32 0)) _ (by simp)).alloc _⟩, ?_⟩
    repeat' (first | with_reducible exact Below.refl _ _ | with_reducible assumption | with_reducible refine Below.setCell ?_ ?_ _ | with_reducible refine below_drewN ?_ _ | with_reducible refine Below.drew ?_ | with_reducible refine Below.alloc ?_ ?_ _)
    all_goals first | (simp; done) | (simp; omega) | omega
  case round =>
    obtain ⟨k, hk, rfl, hI⟩ := hrel
    obtain ⟨⟨l, hl, hW⟩, ⟨lr, hlr, hR⟩, hold⟩ := hI
    by_cases hlt : k < 8
    · obtain ⟨x, hx⟩ : ∃ x, x = v.list.getD k 0 := ⟨_, rfl⟩
      have ix : ∀ W, (Instr.index 177 (.agg #[.int .u32 v.a, .int .u32 v.b, .int .u32 v.c, .int .u32 v.d, .int .u32 v.e, .int .u32 v.f, .int .u32 v.g, .int .u32 v.h]) (.int .i64 (k : Nat))).run Tryd.prog W = .ok (.int .u32 (x : Nat)) W := fun W => by
        rw [hx]; exact run_index_num (l := v.list) Tryd.underlying177 Tryd.underlying133 rfl size_u32 k rfl hlt W
      have hx' : x < 4294967296 := by
        rw [hx]
        obtain ⟨h1, h2, h3, h4, h5, h6, h7, h8⟩ := hv
        rcases (show k = 0 ∨ k = 1 ∨ k = 2 ∨ k = 3 ∨ k = 4 ∨ k = 5 ∨ k = 6 ∨ k = 7 by omega) with rfl | rfl | rfl | rfl | rfl | rfl | rfl | rfl <;> assumption
      have hlen := hl.1
      have g0 : ∀ i, i < 32 → wr.cell? ⟨w.heap.size + 1 + 1, i, none⟩ = some (.int .u8 (l.getD i 0 : Nat)) := fun i hi => hW.num (by omega)
      have c0 := g0 (4 * k) (by omega)
      have c1 := g0 (4 * k + 1) (by omega)
      have c2 := g0 (4 * k + 2) (by omega)
      have c3 := g0 (4 * k + 3) (by omega)
      have f0 : wr.frozen? ⟨w.heap.size + 1 + 1, 4 * k, none⟩ = false := hW.free _
      have f1 : wr.frozen? ⟨w.heap.size + 1 + 1, 4 * k + 1, none⟩ = false := hW.free _
      have f2 : wr.frozen? ⟨w.heap.size + 1 + 1, 4 * k + 2, none⟩ = false := hW.free _
      have f3 : wr.frozen? ⟨w.heap.size + 1 + 1, 4 * k + 3, none⟩ = false := hW.free _
      have H := Lib.hid (And.intro hx hlen)
      clear hx hlen g0
      go_wp2_with fail
      refine wp_loop_rounds 5 ?_
      rw [rounds_succ]; go_wp2_with fail
      rw [rounds_succ]; go_wp2_with fail
      rw [rounds_succ]; go_wp2_with fail
      rw [rounds_succ]; go_wp2_with fail
      rw [rounds_succ]; go_wp2_with fail
      obtain ⟨hx, hlen⟩ := H.out
      have q0 : (x : Int) / (16777216 : Int) = ((x / 16777216 % 256 : Nat) : Int) := by omega
      have q1 : (x : Int) / (65536 : Int) % (256 : Int) = ((x / 65536 % 256 : Nat) : Int) := by omega
      have q2 : (x : Int) / (256 : Int) % (256 : Int) = ((x / 256 % 256 : Nat) : Int) := by omega
      have q3 : (x : Int) % (256 : Int) = ((x % 256 : Nat) : Int) := by omega
      refine ⟨⟨k + 1, by omega, by go_num, ⟨_, hl.next hlt x hx _ rfl, ?_⟩, ⟨lr, hlr, (((hR.far (by dsimp only; omega) _).far (by dsimp only; omega) _).far (by dsimp only; omega) _).far (by dsimp only; omega) _⟩,
        (((hold.setCell (by dsimp only; omega) _).setCell (by dsimp only; omega) _).setCell (by dsimp only; omega) _).setCell (by dsimp only; omega) _⟩, by simp [intOf]; omega⟩
      rw [q0, q1, q2, q3, ← cellsOf_set, ← cellsOf_set, ← cellsOf_set, ← cellsOf_set]
      exact (((hW.set _ _).set _ _).set _ _).set _ _
    · obtain rfl : k = 8 := by omega
      rw [hl.done] at hW
      go_wp2_with (first
        | (with_reducible refine wpList_load_blk rfl 142 (.tmp 3) rfl _ rfl _ _ 32 _ hW Tryd.underlying142 rfl size_dig (by simp [Bul.out_length]) ?_)
        | ((with_reducible refine wpList_store_blk rfl 142 (.tmp 2) (.tmp 44) rfl _ rfl _ rfl _ _ 32 hR size_dig (by simp [Bul.out_length]) (by simp [hlr]) (vals_one _ _) rfl ?_); intro w2 hw2))
      exact bodyPost_ret (results_cell_row rfl _ _ (w.heap.size + 1) _ _ _ _ rfl (by rw [hw2]; exact hR.row _) Tryd.underlying142 rfl (by rw [size_dig]; simp [Bul.out_length])) rfl ⟨rfl, by rw [hw2]; exact below_setRow hold (by omega) _⟩
end Go.Proofs.YtdnnjgjaffkdfaaDoor
namespace Go.Proofs.YtdnnjgjaffkdfaaDoor
open Go Go.RowKit Go.Bul
/-- The cells of a Hash: the state, the block, the length. -/
def hashl (st : Bul.St) (blk : List Nat) (n : Nat) : List Value := vals .u32 st.list ++ (vals .u8 blk ++ [.int .i64 (n : Nat)])
def hashc (st : Bul.St) (blk : List Nat) (n : Nat) : Array Value := (hashl st blk n).toArray
theorem stl_length (st : Bul.St) : st.list.length = 8 := rfl
theorem hashl_length (st : Bul.St) (blk : List Nat) (n : Nat) (hb : blk.length = 64) : (hashl st blk n).length = 73 := by simp [hashl, stl_length, hb]
theorem hashc_size (st : Bul.St) (blk : List Nat) (n : Nat) (hb : blk.length = 64) : (hashc st blk n).size = 73 := by simp [hashc, hashl_length st blk n hb]
theorem hashc_one (st : Bul.St) (blk : List Nat) (n : Nat) : ∀ v ∈ (hashc st blk n).toList, v.oneCell' = true := by
  intro v hv
  simp only [hashc, hashl, List.mem_append, List.mem_singleton] at hv
  rcases hv with hv | hv | rfl
  · exact vals_one _ _ v hv
  · exact vals_one _ _ v hv
  · rfl
theorem hashc_len (st : Bul.St) (blk : List Nat) (n : Nat) (hb : blk.length = 64) : (hashc st blk n)[72]? = some (.int .i64 (n : Nat)) := by
  simp only [hashc, hashl, List.getElem?_toArray]
  rw [List.getElem?_append_right (by simp [stl_length]), List.getElem?_append_right (by simp [stl_length, hb])]
  simp [stl_length, hb]
theorem hashc_set_len (st : Bul.St) (blk : List Nat) (n m : Nat) (hb : blk.length = 64) : (hashc st blk n).setIfInBounds 72 (.int .i64 (m : Nat)) = hashc st blk m := by
  simp only [hashc, hashl, List.setIfInBounds_toArray]
  rw [List.set_append_right _ _ (by simp [stl_length]), List.set_append_right _ _ (by simp [stl_length, hb])]
  simp [stl_length, hb]
theorem hashc_block (st : Bul.St) (blk : List Nat) (n : Nat) (hb : blk.length = 64) : (hashc st blk n).extract 8 (8 + 64) = cellsOf .u8 blk := by
  apply Array.ext'
  simp only [hashc, hashl, List.extract_toArray, cellsOf, List.extract_eq_take_drop]
  rw [List.drop_append_of_le_length (by simp [stl_length]), List.drop_of_length_le (by simp [stl_length]), List.nil_append, List.take_append_of_le_length (by simp [hb]), List.take_of_length_le (by simp [hb])]
theorem hashc_state8 (st : Bul.St) (blk : List Nat) (n : Nat) : (hashc st blk n).extract 0 (0 + 8) = stc st := by
  apply Array.ext'
  simp only [hashc, hashl, List.extract_toArray, stc, cellsOf, List.extract_eq_take_drop]
  rw [List.drop_zero, List.take_append_of_le_length (by simp [stl_length]), List.take_of_length_le (by simp [stl_length])]
theorem hashc_set_state (st st' : Bul.St) (blk : List Nat) (n : Nat) : (splice (hashc st blk n).toList 0 (stc st').toList).toArray = hashc st' blk n := by
  simp only [hashc, hashl, splice, stc, cellsOf, List.take_zero, List.nil_append, Nat.zero_add, vals_length, stl_length]
  rw [List.drop_append_of_le_length (by simp [stl_length]), List.drop_of_length_le (by simp [stl_length]), List.nil_append]
theorem hashl_splice (st : Bul.St) (blk : List Nat) (n r : Nat) (cs : List Nat) (hb : blk.length = 64) (hr : r + cs.length ≤ 64) :
    (hashc st blk n).toList.take (8 + r) ++ (vals .u8 cs ++ (hashc st blk n).toList.drop (8 + r + (vals .u8 cs).length)) = hashl st (blk.take r ++ (cs ++ blk.drop (r + cs.length))) n := by
  simp only [hashc, hashl]
  have h8 : (vals .u32 st.list).length = 8 := by simp [stl_length]
  have e1 : (vals IntKind.u32 st.list ++ (vals .u8 blk ++ [Value.int .i64 (n : Nat)])).take (8 + r) = vals .u32 st.list ++ vals .u8 (blk.take r) := by
    rw [List.take_append, List.take_of_length_le (by rw [h8]; omega), h8, show 8 + r - 8 = r by omega, List.take_append_of_le_length (by simp [hb]; omega)]
    simp [vals, List.map_take]
  have e2 : (vals IntKind.u32 st.list ++ (vals .u8 blk ++ [Value.int .i64 (n : Nat)])).drop (8 + r + (vals .u8 cs).length) = vals .u8 (blk.drop (r + cs.length)) ++ [Value.int .i64 (n : Nat)] := by
    rw [List.drop_append, List.drop_of_length_le (by rw [h8]; omega), h8, vals_length, show 8 + r + cs.length - 8 = r + cs.length by omega, List.drop_append_of_le_length (by simp [hb]; omega)]
    simp [vals, List.map_drop]
  rw [e1, e2]
  simp [vals]
/-- The Hash in block g has been given the bytes l; its state is right even if none came. -/
structure HashLoop (w : World) (g : Nat) (l : List Nat) : Prop where
  bytes : Bytes l
  size : l.length ≤ 9223372036854775807
  ex : ∃ blk, Blk w g 198 (hashc (after l) blk l.length) ∧ blk.length = 64 ∧ Bytes blk ∧ blk.take (l.length % 64) = rest l
/-- The Hash in block g has been given the bytes l. -/
structure HashAt (w : World) (g : Nat) (l : List Nat) : Prop where
  bytes : Bytes l
  size : l.length ≤ 9223372036854775807
  ex : ∃ st blk, Blk w g 198 (hashc st blk l.length) ∧ blk.length = 64 ∧ Bytes blk ∧ blk.take (l.length % 64) = rest l ∧ (l ≠ [] → st = after l)
theorem HashLoop.at_ {w : World} {g : Nat} {l : List Nat} (h : HashLoop w g l) : HashAt w g l := by
  obtain ⟨blk, h1, h2, h3, h4⟩ := h.ex
  exact ⟨h.bytes, h.size, _, blk, h1, h2, h3, h4, fun _ => rfl⟩
theorem HashAt.of_block {w w' : World} {g : Nat} {l : List Nat} (h : HashAt w g l) (hb : w'.heap[g]? = w.heap[g]?) : HashAt w' g l := by
  obtain ⟨st, blk, h1, h2⟩ := h.ex
  exact ⟨h.bytes, h.size, st, blk, hb.trans h1, h2⟩
theorem HashAt.keep {w w' : World} {g : Nat} {l : List Nat} (h : HashAt w g l) (hb : Below w.heap.size w w') : HashAt w' g l := by
  obtain ⟨st, blk, h1, h2⟩ := h.ex
  exact ⟨h.bytes, h.size, st, blk, h1.kept hb, h2⟩
theorem take_more (bs : List Nat) (k p : Nat) : bs.take (k + p) = bs.take k ++ (bs.drop k).take p := by rw [List.take_add]
/-- A piece that does not fill the block. -/
theorem HashLoop.part {w : World} {g : Nat} {L ch blk blk2 : List Nat} (hL : Bytes L) (hc : Bytes ch) (hs : (L ++ ch).length ≤ 9223372036854775807) (hp : L.length % 64 + ch.length < 64)
    (hb : blk.length = 64) (ht : blk.take (L.length % 64) = rest L) (h2 : blk2 = blk.take (L.length % 64) ++ (ch ++ blk.drop (L.length % 64 + ch.length))) (hbb : Bytes blk2)
    (hB : Blk w g 198 (hashc (after L) blk2 (L.length + ch.length))) : HashLoop w g (L ++ ch) := by
  obtain ⟨e1, e2⟩ := after_part hp
  refine ⟨hL.append hc, hs, blk2, ?_, ?_, hbb, ?_⟩
  · rw [e1, List.length_append]; exact hB
  · rw [h2]; simp [hb]; omega
  · rw [e2, List.length_append, show (L.length + ch.length) % 64 = L.length % 64 + ch.length by omega, h2, ← ht]
    rw [← List.append_assoc, List.take_append_of_le_length (by simp [hb]; omega), List.take_of_length_le (by simp [hb]; omega)]
/-- A piece that fills it. -/
theorem HashLoop.full {w : World} {g : Nat} {L ch blk blk2 : List Nat} (hL : Bytes L) (hc : Bytes ch) (hs : (L ++ ch).length ≤ 9223372036854775807) (hp : L.length % 64 + ch.length = 64)
    (hb : blk.length = 64) (ht : blk.take (L.length % 64) = rest L) (h2 : blk2 = blk.take (L.length % 64) ++ (ch ++ blk.drop (L.length % 64 + ch.length))) (hbb : Bytes blk2)
    (hB : Blk w g 198 (hashc (compress (after L) (word blk2)) blk2 (L.length + ch.length))) : HashLoop w g (L ++ ch) := by
  obtain ⟨e1, e2⟩ := after_full hp
  have h3 : blk2 = rest L ++ ch := by rw [h2, hp, List.drop_of_length_le (by omega), List.append_nil, ht]
  refine ⟨hL.append hc, hs, blk2, ?_, ?_, hbb, ?_⟩
  · rw [e1, ← h3, List.length_append]; exact hB
  · rw [h2]; simp [hb]; omega
  · rw [e2, List.length_append, show (L.length + ch.length) % 64 = 0 by omega]; rfl
theorem Tab.only {w w' : World} {g : Nat} (h : Tab w) (ho : Only g w w') (hg : 1 ≠ g) : Tab w' := fun i hi => by
  have h0 := h i hi
  have hlt := block_lt_of_cell (h 0 (by omega))
  exact (World.cell?_of_block (w := w) (a := ⟨1, i, none⟩) (ho.block _ hlt (by rintro ⟨⟩; exact hg rfl))).trans h0
theorem range_map_getD (f : Nat → Nat) (n j : Nat) (hj : j < n) : ((List.range n).map f).getD j 0 = f j := by
  rw [List.getD_eq_getElem?_getD, List.getElem?_map, List.getElem?_range hj]
  rfl
/-- A slice reads as bytes, and lies in no block of which B says so. -/
structure Rd (w : World) (ok : Nat → Prop) (A : Option Addr) (n : Nat) (bs : List Nat) : Prop where
  len : bs.length = n
  bytes : Bytes bs
  at_ : 0 < n → ∃ ad, A = some ad ∧ ok ad.block ∧ ad.block < w.heap.size ∧ ∀ j, j < n → w.cell? (ad.add j) = some (.int .u8 (bs.getD j 0 : Nat))
theorem block_of_add (a : Addr) (n : Nat) : (a.add n).block = a.block := by unfold Addr.add; split <;> rfl
theorem add_of_add (a : Addr) (i j : Nat) : (a.add i).add j = a.add (i + j) := by
  unfold Addr.add
  by_cases hi : i = 0 <;> by_cases hj : j = 0 <;> simp [hi, hj, Nat.add_assoc]
section
variable {w w' : World} {ok ok' : Nat → Prop} {A : Option Addr} {n : Nat} {bs : List Nat}
theorem Rd.nil (w : World) (ok : Nat → Prop) (A : Option Addr) : Rd w ok A 0 [] := ⟨rfl, Bytes.nil, fun h => absurd h (by omega)⟩
theorem Rd.keep (h : Rd w ok A n bs) (hs : w.heap.size ≤ w'.heap.size) (hk : ∀ b, ok b → b < w.heap.size → w'.heap[b]? = w.heap[b]?) : Rd w' ok A n bs :=
  ⟨h.len, h.bytes, fun hn => by
    obtain ⟨ad, e, ho, hb, hc⟩ := h.at_ hn
    refine ⟨ad, e, ho, by omega, fun j hj => ?_⟩
    rw [World.cell?_of_block (w := w) (by rw [block_of_add]; exact hk _ ho hb)]
    exact hc j hj⟩
theorem Rd.kept (h : Rd w ok A n bs) (hb : Below w.heap.size w w') : Rd w' ok A n bs := h.keep hb.size fun b _ h => hb.block b h
theorem Rd.imp (h : Rd w ok A n bs) (hi : ∀ b, b < w.heap.size → ok b → ok' b) : Rd w ok' A n bs :=
  ⟨h.len, h.bytes, fun hn => by
    obtain ⟨ad, e, ho, hb, hc⟩ := h.at_ hn
    exact ⟨ad, e, hi _ hb ho, hb, hc⟩⟩
theorem Rd.cut {cap k : Nat} (h : Rd w ok A n bs) (hk : k ≤ n) (hc : n ≤ cap) : Rd w ok (if cap = k then A else A.map (·.add k)) (n - k) (bs.drop k) := by
  refine ⟨by rw [List.length_drop, h.len], h.bytes.drop k, fun hn => ?_⟩
  obtain ⟨ad, rfl, ho, hb, hcell⟩ := h.at_ (by omega)
  rw [if_neg (by omega)]
  refine ⟨ad.add k, rfl, by rw [block_of_add]; exact ho, by rw [block_of_add]; exact hb, fun j hj => ?_⟩
  rw [add_of_add, hcell _ (by omega)]
  simp [List.getD_eq_getElem?_getD]
/-- As the laws of the library ask it. -/
theorem Rd.cells (h : Rd w ok A n bs) (k : Nat) {ad : Addr} (hA : A = some ad) : ∀ j v, (vals .u8 (bs.take k))[j]? = some v → w.cell? (ad.add j) = some v := fun j v hv => by
  rw [vals_get] at hv
  have hj : j < (bs.take k).length := by
    rcases Nat.lt_or_ge j (bs.take k).length with h1 | h1
    · exact h1
    · rw [List.getElem?_eq_none h1] at hv; cases hv
  have hj' : j < bs.length := by simp at hj; omega
  obtain ⟨ad', e, _, _, hc⟩ := h.at_ (by have := h.len; omega)
  obtain rfl : ad = ad' := Option.some.inj (hA.symm.trans e)
  rw [hc j (by rw [← h.len]; exact hj')]
  rw [← hv, List.getElem?_eq_getElem hj]
  simp [hj']
end
end Go.Proofs.YtdnnjgjaffkdfaaDoor
namespace Go.Proofs.YtdnnjgjaffkdfaaDoor
open Go Go.RowKit Go.Bul
section
variable {P : Program} {w : World}
theorem own_form {base : Nat} {e : TypeId} {size : Nat} {v : Value} {n : Nat} {xs : List Value} (h : w.ownsRow base e size v n xs) :
    ∃ A c, v = .slice A n c ∧ n ≤ c ∧ c ≤ maxLen ∧ (0 < n → ∃ g, A = some ⟨g, 0, none⟩ ∧ base ≤ g ∧ g < w.heap.size) := by
  rcases h.2 with ⟨rfl, rfl⟩ | ⟨g, cap, cur, rfl, hb, hg, hnc, hcm, _⟩
  · exact ⟨none, 0, rfl, Nat.le_refl _, by unfold maxLen; omega, fun h => absurd h (by omega)⟩
  · exact ⟨_, cap, rfl, hnc, hcm, fun _ => ⟨g, rfl, hb, (Array.getElem?_eq_some_iff.1 hg).1⟩⟩
theorem run_append_none (base : Nat) (t ty e : TypeId) (i : TypeInfo) (size : Nat) (ht : P.underlying t = some (.slice e)) (hi : P.info? e = some i)
    (v : Value) (n : Nat) (xs : List Value) (hown : w.ownsRow base e size v n xs) (c : Nat) : (Builtin.append_ #[t, t] ty #[v, .slice none 0 c]).run P w = .ok v w := by
  rcases hown.2 with ⟨rfl, rfl⟩ | ⟨g, cap, cur, rfl, _, _, hnc, _⟩
  · simp [Builtin.append_, run_underlying ht, sizeOf, typeInfo, hi, Builtin.lenOf, Builtin.firstCells]
  · simp [Builtin.append_, run_underlying ht, sizeOf, typeInfo, hi, Builtin.lenOf, Builtin.firstCells, hnc, storeCells]
theorem run_append_src (base : Nat) (t ty e : TypeId) (z : Value) (size bytes : Nat) (ht : P.underlying t = some (.slice e)) (hi : (P.info? e).map (fun i => (i.zero, i.size, i.bytes)) = some (some z, size, bytes)) (hzs : z.cells.size = size) (hsz : 0 < size)
    (v : Value) (n : Nat) (xs : List Value) (hown : w.ownsRow base e size v n xs)
    (A : Option Addr) (m c : Nat) (news : List Value) (hl : news.length = m * size) (hr : 0 < m → ∃ ad, A = some ad ∧ ∀ j u, news[j]? = some u → w.cell? (ad.add j) = some u) (h1 : ∀ u ∈ news, u.oneCell' = true)
    (h63 : n + m ≤ maxLen) (hbytes : (n + m) * bytes ≤ 140737488355328) (hbase : base ≤ w.heap.size) :
    ∃ A' c' w', (Builtin.append_ #[t, t] ty #[v, .slice A m c]).run P w = .ok (.slice A' (n + m) c') w' ∧ w'.ownsRow base e size (.slice A' (n + m) c') (n + m) (xs ++ news) ∧ w.grownBy w' v.ownBlock ∧
      ((Value.slice A' (n + m) c').ownBlock = v.ownBlock ∨ (Value.slice A' (n + m) c').ownBlock = some w.heap.size) := by
  obtain ⟨i, hi', hz', hs', hb'⟩ := info_parts hi
  have hgo : ∀ ad, A = some ad → (∀ j u, news[j]? = some u → w.cell? (ad.add j) = some u) → ∃ A' c' w', (Builtin.append_ #[t, t] ty #[v, .slice A m c]).run P w = .ok (.slice A' (n + m) c') w' ∧ w'.ownsRow base e size (.slice A' (n + m) c') (n + m) (xs ++ news) ∧ w.grownBy w' v.ownBlock ∧
      ((Value.slice A' (n + m) c').ownBlock = v.ownBlock ∨ (Value.slice A' (n + m) c').ownBlock = some w.heap.size) := by
    intro ad hA hc
    subst hA
    obtain ⟨v', w', hrun, h2, h3, _, h5⟩ := run_append_own_at (P := P) w base t ty e i z size bytes ht hi' hz' hs' hb' hzs hsz v n xs hown ad m c news hl hc h1 h63 hbytes hbase
    obtain ⟨A', c', rfl, _⟩ := own_form h2
    exact ⟨A', c', w', hrun, h2, h3, h5⟩
  rcases Nat.eq_zero_or_pos m with h0 | h0
  · subst h0
    have hn : news = [] := List.eq_nil_of_length_eq_zero (by simpa using hl)
    subst hn
    cases A with
    | none =>
      obtain ⟨A', c', rfl, _⟩ := own_form hown
      exact ⟨A', c', w, run_append_none base t ty e i size ht hi' _ n xs hown c, by simpa using hown, World.grownBy.refl w _, .inl rfl⟩
    | some ad => exact hgo ad rfl (fun j u hu => by simp at hu)
  · obtain ⟨ad, hA, hc⟩ := hr h0
    exact hgo ad hA hc
theorem wpList_append_src {ops : Array Oper} {rest : List Oper} {o : Oper} {a : Act} {Q : Exit → Act → World → Prop} (hgd : o.guard = none) (s x : Operand) (t : TypeId)
    (ho : o.op = .call { callee := .builtin .append, args := #[s, x], argTypes := #[t, t] })
    (base : Nat) (e : TypeId) (z : Value) (size bytes : Nat) (ht : P.underlying t = some (.slice e)) (hi : (P.info? e).map (fun i => (i.zero, i.size, i.bytes)) = some (some z, size, bytes)) (hzs : z.cells.size = size) (hsz : 0 < size)
    (v : Value) (n : Nat) (xs : List Value) (hs : a.eval s = v) (hown : w.ownsRow base e size v n xs)
    (A : Option Addr) (m c : Nat) (news : List Value) (hx : a.eval x = .slice A m c) (hl : news.length = m * size) (hr : 0 < m → ∃ ad, A = some ad ∧ ∀ j u, news[j]? = some u → w.cell? (ad.add j) = some u) (h1 : ∀ u ∈ news, u.oneCell' = true)
    (h63 : n + m ≤ maxLen) (hbytes : (n + m) * bytes ≤ 140737488355328) (hbase : base ≤ w.heap.size)
    (h : ∀ A' c' w', w'.ownsRow base e size (.slice A' (n + m) c') (n + m) (xs ++ news) → w.grownBy w' v.ownBlock → ((Value.slice A' (n + m) c').ownBlock = v.ownBlock ∨ (Value.slice A' (n + m) c').ownBlock = some w.heap.size) →
      wpList P ops Q rest (a.put o.dst (.slice A' (n + m) c')) w') : wpList P ops Q (o :: rest) a w :=
  wpList_plain hgd fun K hK => by
    obtain ⟨A', c', w', hrun, h2, h3, h4⟩ := run_append_src (P := P) base t o.type e z size bytes ht hi hzs hsz v n xs hown A m c news hl hr h1 h63 hbytes hbase
    unfold Oper.wp execOp
    simp only [ho, resolve, invoke, builtin, Sem.run_bind, Sem.run_pure, Result.andThen_ok, List.map_toArray, List.map_cons, List.map_nil, hs, hx, hrun]
    exact hK _ _ (h A' c' w' h2 h3 h4)
end
/-- A row of the call's own that reads as bytes. -/
def OwnB (w : World) (base : Nat) (v : Value) (xs : List Nat) : Prop := w.ownsRow base 5 1 v xs.length (vals .u8 xs)
theorem info_u8 : (Tryd.prog.info? 5).map (fun i => (i.zero, i.size, i.bytes)) = some (some (.int .u8 0), 1, 1) := by kernel_rfl
theorem OwnB.rd {w : World} {base : Nat} {A : Option Addr} {c : Nat} {xs : List Nat} {n : Nat} (h : OwnB w base (.slice A n c) xs) (hn : n = xs.length) (hb : Bytes xs) : Rd w (fun b => base ≤ b) A n xs ∧ n ≤ c := by
  subst hn
  obtain ⟨A', c', he, hc, _, hp⟩ := own_form h
  obtain ⟨rfl, rfl⟩ : A = A' ∧ c = c' := by injection he with h1 h2 h3; exact ⟨h1, h3⟩
  refine ⟨⟨rfl, hb, fun h0 => ?_⟩, hc⟩
  obtain ⟨g, rfl, hg, hlt⟩ := hp h0
  refine ⟨_, rfl, hg, hlt, fun j hj => h.cells rfl j _ ?_⟩
  rw [vals_get]
  simp [hj]
theorem OwnB.alloc {w : World} {base : Nat} {v : Value} {xs : List Nat} (h : OwnB w base v xs) (o : Obj) : OwnB (w.alloc o) base v xs := World.ownsRow.alloc h o
theorem OwnB.kept {w w' : World} {base : Nat} {v : Value} {xs : List Nat} (h : OwnB w base v xs) (hb : Below w.heap.size w w') : OwnB w' base v xs :=
  World.ownsRow.kept h (row := none) ⟨hb.os, hb.tape, hb.output, hb.size, fun i hi _ => hb.block i hi⟩ (by cases v.ownBlock <;> simp)
theorem OwnB.of_block {w : World} {base g : Nat} {xs : List Nat} (h : Blk w g 5 (cellsOf .u8 xs)) (hb : base ≤ g) (hm : xs.length ≤ maxLen) : OwnB w base (.slice (some ⟨g, 0, none⟩) xs.length xs.length) xs :=
  ⟨by simp, .inr ⟨g, _, _, rfl, hb, h, Nat.le_refl _, hm, by simp, by simp only [cellsOf, Nat.mul_one]; exact List.take_of_length_le (by simp)⟩⟩
theorem OwnB.block_ge {w : World} {base k : Nat} {v : Value} {xs : List Nat} (h : OwnB w base v xs) (hk : v.ownBlock = some k) : base ≤ k ∧ k < w.heap.size := by
  rcases h.2 with ⟨rfl, _⟩ | ⟨g, cap, cur, rfl, hb, hg, _⟩
  · simp [Value.ownBlock] at hk
  · simp [Value.ownBlock] at hk
    subst hk
    exact ⟨hb, (Array.getElem?_eq_some_iff.1 hg).1⟩
theorem OwnB.nil (w : World) (base : Nat) : OwnB w base (.slice none 0 0) [] := World.ownsRow_nil _ _ _ _
theorem Rd.one (w : World) (ok : Nat → Prop) (t : TypeId) (x : Nat) (y : Int) (hy : y = (x : Int)) (hx : x < 256) (ho : ok w.heap.size) : Rd (w.alloc (.cells #[.int .u8 y] t)) ok (some ⟨w.heap.size, 0, none⟩) 1 [x] := by
  refine ⟨rfl, Bytes.cons hx Bytes.nil, fun _ => ⟨_, rfl, ho, by simp, fun j hj => ?_⟩⟩
  obtain rfl : j = 0 := by omega
  subst hy
  exact (Blk.new w t _).cell 0
theorem Rd.of_block {w : World} {ok : Nat → Prop} {t : TypeId} {g : Nat} {xs : List Nat} (h : Blk w g t (cellsOf .u8 xs)) (hb : Bytes xs) (ho : ok g) : Rd w ok (some ⟨g, 0, none⟩) xs.length xs :=
  ⟨rfl, hb, fun _ => ⟨_, rfl, ho, h.lt, fun j hj => by rw [addr_at, Nat.zero_add]; exact h.num hj⟩⟩
/-- append bytes that a slice reads as. -/
theorem wpList_append_bytes {w : World} {ops : Array Oper} {rest : List Oper} {o : Oper} {a : Act} {Q : Exit → Act → World → Prop} (hgd : o.guard = none) (s x : Operand) (t : TypeId)
    (ho : o.op = .call { callee := .builtin .append, args := #[s, x], argTypes := #[t, t] }) (ht : Tryd.prog.underlying t = some (.slice 5))
    (base : Nat) (v : Value) (xs : List Nat) (hs : a.eval s = v) (hown : OwnB w base v xs) (ok : Nat → Prop) (A : Option Addr) (m c : Nat) (ys : List Nat) (hx : a.eval x = .slice A m c) (hr : Rd w ok A m ys)
    (zs : List Nat) (hzs : xs ++ ys = zs) (N : Nat) (hN : zs.length = N) (h63 : N ≤ 140737488355328) (hbase : base ≤ w.heap.size)
    (h : ∀ A' c' w', OwnB w' base (.slice A' N c') zs → N ≤ c' → w.grownBy w' v.ownBlock → ((Value.slice A' N c').ownBlock = v.ownBlock ∨ (Value.slice A' N c').ownBlock = some w.heap.size) →
      wpList Tryd.prog ops Q rest (a.put o.dst (.slice A' N c')) w') : wpList Tryd.prog ops Q (o :: rest) a w := by
  subst hzs
  have hl := hr.len
  have e : xs.length + m = N := by rw [← hN]; simp [hl]
  refine wpList_append_src hgd s x t ho base 5 (.int .u8 0) 1 1 ht info_u8 rfl (by decide) v xs.length (vals .u8 xs) hs hown A m c (vals .u8 ys) hx (by simp [hl]) (fun hm => ?_) (vals_one _ _) (by unfold maxLen; omega) (by omega) hbase ?_
  · obtain ⟨ad, hA, _⟩ := hr.at_ hm
    exact ⟨ad, hA, by have := hr.cells ys.length hA; rwa [List.take_of_length_le (Nat.le_refl _)] at this⟩
  · intro A' c' w' h2 h3 h4
    rw [e] at h2 h4 ⊢
    have h2' : OwnB w' base (.slice A' N c') (xs ++ ys) := by unfold OwnB; rw [hN]; rwa [show vals .u8 (xs ++ ys) = vals .u8 xs ++ vals .u8 ys by simp [vals]]
    obtain ⟨_, _, he, hc, _⟩ := own_form h2
    injection he with _ _ h6
    exact h A' c' w' h2' (by omega) h3 h4
theorem Rd.take {w : World} {ok : Nat → Prop} {A : Option Addr} {n : Nat} {bs : List Nat} (h : Rd w ok A n bs) (k : Nat) : Rd w ok A (min n k) (bs.take k) := by
  refine ⟨by rw [List.length_take, h.len]; omega, h.bytes.take k, fun h0 => ?_⟩
  obtain ⟨ad, hA, ho, hlt, hc⟩ := h.at_ (by omega)
  refine ⟨ad, hA, ho, hlt, fun j hj => ?_⟩
  rw [hc j (by omega)]
  congr 2
  simp [List.getD, show j < k by omega]
end Go.Proofs.YtdnnjgjaffkdfaaDoor
