/- Operations on whole rows: a struct or an array loaded from a block, stored into one, laid anew; equality of arrays of numbers. Contract of sha256.load: the sixteen words of a block of 64 bytes. Condition: the elements are bytes. Contract of sha256's words.digest: the bytes of a state. Condition: the words are below 2^32. -/
import Derived.Test.YtpigmibaeoceaaaDoorMem
import Derived.Laws.CopyOwn
import Derived.Laws.StructEq
import Derived.WalkKit
import Derived.Test.YtpigmibaeoceaaaDoorProc
import Derived.LoopN
namespace Go.Bul
open Go Go.RowKit
section
variable {P : Program} {w : World} {ops : Array Oper} {rest : List Oper} {o : Oper} {a : Act} {Q : Exit → Act → World → Prop}

def isRow : TypeDesc → Bool
  | .struct _ | .array _ _ => true
  | _ => false

theorem run_isAgg {ty : TypeId} {d : TypeDesc} (hu : P.underlying ty = some d) (hd : isRow d = true) (w : World) : (isAgg ty).run P w = .ok true w := by
  unfold isAgg
  rw [Sem.run_bind, run_underlying hu w]
  cases d <;> simp_all [isRow]
theorem run_isAgg_no {ty : TypeId} {d : TypeDesc} (hu : P.underlying ty = some d) (hd : isRow d = false) (w : World) : (isAgg ty).run P w = .ok false w := by
  unfold isAgg
  rw [Sem.run_bind, run_underlying hu w]
  cases d <;> simp_all [isRow]
theorem run_sizeOf {ty : TypeId} {n : Nat} (hi : (P.info? ty).map (·.size) = some n) (w : World) : (sizeOf ty).run P w = .ok n w := by
  cases hq : P.info? ty with
  | none => simp [hq] at hi
  | some i =>
    have : i.size = n := by simpa [hq] using hi
    simp [sizeOf, typeInfo, hq, this]
theorem addr_at (g o j : Nat) : (⟨g, o, none⟩ : Addr).add j = ⟨g, o + j, none⟩ := by
  unfold Addr.add
  split
  · rename_i h; subst h; rfl
  · rfl

/-- A struct or an array, read out of a block from a place on. -/
theorem run_load_part (w : World) (g off : Nat) (t ty : TypeId) (cs : Array Value) (n : Nat) (d : TypeDesc) (hg : Blk w g t cs) (hu : P.underlying ty = some d) (hd : isRow d = true)
    (hi : (P.info? ty).map (·.size) = some n) (hn : off + n ≤ cs.size) : (loadVar ty ⟨g, off, none⟩).run P w = .ok (.agg (cs.extract off (off + n))) w := by
  have hl : (loadCells ⟨g, off, none⟩ (cs.extract off (off + n)).toList.length).run P w = .ok (cs.extract off (off + n)).toList.toArray w :=
    run_loadCells_list (P := P) w ⟨g, off, none⟩ (cs.extract off (off + n)).toList (fun j v hv => by
      rw [addr_at, hg.cell]
      simp only [Array.getElem?_toList] at hv
      rw [Array.getElem?_extract] at hv
      split at hv
      · exact hv
      · cases hv)
  have hlen : (cs.extract off (off + n)).toList.length = n := by simp; omega
  rw [hlen] at hl
  simp only [Array.toArray_toList] at hl
  simp [loadVar, Sem.run_bind, run_isAgg hu hd, run_sizeOf hi, hl]

theorem wpList_load_part (hgd : o.guard = none) (ty : TypeId) (x : Operand) (ho : o.op = .load ty x) (g off : Nat) (hx : a.eval x = .pointer (some ⟨g, off, none⟩))
    (t : TypeId) (cs : Array Value) (n : Nat) (d : TypeDesc) (hg : Blk w g t cs) (hu : P.underlying ty = some d) (hd : isRow d = true)
    (hi : (P.info? ty).map (·.size) = some n) (hn : off + n ≤ cs.size) (X : Array Value) (hX : cs.extract off (off + n) = X)
    (h : wpList P ops Q rest (a.put o.dst (.agg X)) w) : wpList P ops Q (o :: rest) a w :=
  wpList_plain hgd fun K hK => by
    unfold Oper.wp execOp
    simp only [ho, hx, Instr.loadAt, Instr.sureAddr, Sem.run_bind, Sem.run_pure, Result.andThen_ok, run_load_part w g off t ty cs n d hg hu hd hi hn, hX]
    exact hK _ _ h
/-- .. the whole block. -/
theorem wpList_load_blk (hgd : o.guard = none) (ty : TypeId) (x : Operand) (ho : o.op = .load ty x) (g : Nat) (hx : a.eval x = .pointer (some ⟨g, 0, none⟩))
    (t : TypeId) (cs : Array Value) (n : Nat) (d : TypeDesc) (hg : Blk w g t cs) (hu : P.underlying ty = some d) (hd : isRow d = true)
    (hi : (P.info? ty).map (·.size) = some n) (hn : cs.size = n)
    (h : wpList P ops Q rest (a.put o.dst (.agg cs)) w) : wpList P ops Q (o :: rest) a w :=
  wpList_load_part hgd ty x ho g 0 hx t cs n d hg hu hd hi (by omega) cs (by simp [← hn]) h

theorem Blk.row {g : Nat} {t : TypeId} {cs : Array Value} (h : Blk w g t cs) (X : Array Value) : Blk (w.setRow g X) g t X := setRow_heap w g cs X t (0, 0) h
theorem Blk.rowFar {g g' : Nat} {t : TypeId} {cs : Array Value} (h : Blk w g' t cs) (hne : g' ≠ g) (X : Array Value) : Blk (w.setRow g X) g' t cs := (setRow_other w g g' X hne).trans h

/-- .. in a quiet walk. -/
theorem quietAt_load {C : World → Prop} (ty : TypeId) (x : Operand) (ho : o.op = .load ty x) (g off : Nat) (hx : a.eval x = .pointer (some ⟨g, off, none⟩))
    (t : TypeId) (cs : Array Value) (n : Nat) (d : TypeDesc) (hg : Blk w g t cs) (hu : P.underlying ty = some d) (hd : isRow d = true)
    (hi : (P.info? ty).map (·.size) = some n) (hn : off + n ≤ cs.size) (X : Array Value) (hX : cs.extract off (off + n) = X) : o.quietAt P a C w (.agg X) := by
  unfold Oper.quietAt execOp
  simp only [ho, hx, Instr.loadAt, Instr.sureAddr, Sem.run_bind, Sem.run_pure, Result.andThen_ok, run_load_part w g off t ty cs n d hg hu hd hi hn, hX]
  exact ⟨rfl, rfl⟩

/-- A struct or an array, written into a block from a place on. -/
theorem wpList_store_part (hgd : o.guard = none) (ty : TypeId) (x y : Operand) (ho : o.op = .store ty x y) (g off : Nat) (hx : a.eval x = .pointer (some ⟨g, off, none⟩))
    (vs : Array Value) (hy : a.eval y = .agg vs) (t : TypeId) (cs : Array Value) (n : Nat) (hg : Blk w g t cs)
    (hi : (P.info? ty).map (·.size) = some n) (hv : vs.size = n) (hn : off + n ≤ cs.size) (h1 : ∀ v ∈ vs.toList, v.oneCell' = true)
    (hdst : o.dst = none) (h : ∀ w', w' = w.setRow g (splice cs.toList off vs.toList).toArray → wpList P ops Q rest a w') : wpList P ops Q (o :: rest) a w :=
  wpList_plain hgd fun K hK => by
    have hs := run_storeCells_at P g off t vs.toList 0 cs w hg (by simpa [hv] using hn) h1
    unfold Oper.wp execOp
    simp only [ho, hx, hy, Instr.storeAt, Instr.sureAddr, storeVar, Value.cells, Sem.run_bind, Sem.run_pure, Result.andThen_ok, run_sizeOf hi, hv, ne_eq, not_true_eq_false, if_false, Nat.add_zero] at hs ⊢
    rw [hs]
    simp only [Array.length_toList, Result.andThen_ok]
    show K (a.put o.dst undef) _
    rw [hdst]
    exact hK _ _ (h _ (by simp [splice]))
/-- .. over the whole block. -/
theorem wpList_store_blk (hgd : o.guard = none) (ty : TypeId) (x y : Operand) (ho : o.op = .store ty x y) (g : Nat) (hx : a.eval x = .pointer (some ⟨g, 0, none⟩))
    (vs : Array Value) (hy : a.eval y = .agg vs) (t : TypeId) (cs : Array Value) (n : Nat) (hg : Blk w g t cs)
    (hi : (P.info? ty).map (·.size) = some n) (hv : vs.size = n) (hn : cs.size = n) (h1 : ∀ v ∈ vs.toList, v.oneCell' = true)
    (hdst : o.dst = none) (h : ∀ w', w' = w.setRow g vs → wpList P ops Q rest a w') : wpList P ops Q (o :: rest) a w :=
  wpList_store_part hgd ty x y ho g 0 hx vs hy t cs n hg hi hv (by omega) h1 hdst fun w' hw' => h w' (by
    rw [hw']
    congr 1
    apply Array.ext'
    simp [splice, hv, ← hn])

/-- A new variable of a type whose zero value is known. -/
theorem wpList_alloc_zero (hgd : o.guard = none) (ty : TypeId) (ho : o.op = .alloc ty) (z : Value) (hz : (P.info? ty).map (·.zero) = some (some z))
    (h : wpList P ops Q rest (a.put o.dst (.pointer (some ⟨w.heap.size, 0, none⟩))) (w.alloc (.cells z.cells ty))) : wpList P ops Q (o :: rest) a w :=
  wpList_plain hgd fun K hK => by
    cases hq : P.info? ty with
    | none => simp [hq] at hz
    | some i =>
      have hz' : i.zero = some z := by simpa [hq] using hz
      unfold Oper.wp execOp
      simp only [ho, Instr.alloc, zeroValue, typeInfo, newVar, newRow, newObj, Sem.run_bind, Sem.run_pure, Result.andThen_ok, run_program, hq, hz']
      exact hK _ _ h

/-- copy into a block that is known whole, from memory that reads as cs; the world behind it gets a name. -/
theorem wpList_copy_named (hgd : o.guard = none) (d s : Operand) (dT sT : TypeId)
    (ho : o.op = .call { callee := .builtin .copy, args := #[d, s], argTypes := #[dT, sT] }) (elem : TypeId) (hu : P.underlying dT = some (.slice elem)) (hsz : (P.info? elem).map (·.size) = some 1)
    (g off dLen dCap : Nat) (ad : Addr) (sLen sCap : Nat) (hd : a.eval d = .slice (some ⟨g, off, none⟩) dLen dCap) (hs : a.eval s = .slice (some ad) sLen sCap)
    (cur : Array Value) (t : TypeId) (hg : Blk w g t cur) (cs : List Value) (p : Nat) (hp : cs.length = p) (hn : p = min sLen dLen)
    (hsrc : ∀ j v, cs[j]? = some v → w.cell? (ad.add j) = some v) (hfit : off + p ≤ cur.size) (h1 : ∀ v ∈ cs, v.oneCell' = true)
    (h : ∀ w', w' = w.setRow g (cur.toList.take off ++ (cs ++ cur.toList.drop (off + cs.length))).toArray → wpList P ops Q rest (a.put o.dst (.int .i64 (p : Nat))) w') : wpList P ops Q (o :: rest) a w :=
  wpList_copy_own hgd d s dT sT ho elem hu hsz g off dLen dCap ad sLen sCap hd hs cur t hg cs (hp.trans hn) hsrc (by rw [hp]; exact hfit) h1 (by rw [show goInt cs.length = .int .i64 (p : Nat) by rw [← hp]; rfl]; exact h _ rfl)

/-! ### Equality of arrays -/
theorem run_equalIn_array (w : World) (d : Nat) {t e : TypeId} {n sz : Nat} (xs ys : Array Value) (f : Nat → Bool) (ht : P.underlying t = some (.array n e)) (hs : (P.info? e).map (·.size) = some sz)
    (hf : ∀ i, i < n → (do let a ← part e xs (i * sz); let b ← part e ys (i * sz); Op.equalIn d e a b : Sem Bool).run P w = .ok (f i) w) :
    (Op.equalIn (d + 1) t (.agg xs) (.agg ys)).run P w = .ok ((List.range n).all f) w := by
  simp only [Op.equalIn, Sem.run_bind, run_underlying ht, Result.andThen_ok, run_sizeOf hs]
  rw [Std.Legacy.Range.forIn_eq_forIn_range']
  simp only [Std.Legacy.Range.size, Nat.sub_zero, Nat.add_sub_cancel, Nat.div_one]
  rw [List.range_eq_range']
  have key : ∀ (m k : Nat), k + m ≤ n → (forIn (List.range' k m) ((none, ()) : Option Bool × Unit) (fun i _ => do
        let a ← part e xs (i * sz)
        let b ← part e ys (i * sz)
        let r ← Op.equalIn d e a b
        if (!r) = true then pure (ForInStep.done (some false, ())) else pure (ForInStep.yield (none, ()))) : Sem (Option Bool × Unit)).run P w =
      .ok (if (List.range' k m).all f then (none, ()) else (some false, ())) w := by
    intro m
    induction m with
    | zero => intro k _; simp
    | succ m ih =>
      intro k hk
      have h1 := hf k (by omega)
      simp only [Sem.run_bind] at h1
      simp only [List.range'_succ, List.forIn_cons, Sem.run_bind, List.all_cons]
      generalize (part e xs (k * sz)).run P w = r1 at h1 ⊢
      cases r1 with
      | halt x w1 => simp [Result.andThen] at h1
      | ok a w1 =>
        simp only [Result.andThen_ok] at h1 ⊢
        generalize (part e ys (k * sz)).run P w1 = r2 at h1 ⊢
        cases r2 with
        | halt x w2 => simp [Result.andThen] at h1
        | ok b w2 =>
          simp only [Result.andThen_ok] at h1 ⊢
          rw [h1]
          simp only [Result.andThen_ok]
          cases hfk : f k
          · simp [Sem.run_pure]
          · simp only [Bool.not_true, Bool.false_eq_true, if_false, Sem.run_pure, Result.andThen_ok, Bool.true_and]
            exact ih (k + 1) (by omega)
  rw [key n 0 (by omega)]
  cases h : (List.range' 0 n).all f <;> simp
theorem run_part_num (w : World) {e : TypeId} {dd : TypeDesc} (hE : P.underlying e = some dd) (hd : isRow dd = false) (k : IntKind) (l : List Nat) (i : Nat) (hi : i < l.length) :
    (part e (cellsOf k l) (i * 1)).run P w = .ok (.int k (l.getD i 0 : Nat)) w := by
  have hg := cellsOf_get k l i hi
  simp [part, Sem.run_bind, run_isAgg_no hE hd, hg]
theorem all_getD (l m : List Nat) (h : l.length = m.length) : ((List.range l.length).all fun i => ((l.getD i 0 : Nat) : Int) == ((m.getD i 0 : Nat) : Int)) = (l == m) := by
  rw [Bool.eq_iff_iff]
  simp only [List.all_eq_true, List.mem_range, beq_iff_eq, Int.ofNat_inj]
  constructor
  · intro hh
    apply List.ext_getElem h
    intro i h1 h2
    have := hh i h1
    simpa [h1, h2] using this
  · rintro rfl i _
    rfl
/-- Two arrays of numbers. -/
theorem run_equalIn_nums (w : World) (d : Nat) {t e : TypeId} {n : Nat} {k : IntKind} (l m : List Nat) (ht : P.underlying t = some (.array n e)) (he : P.underlying e = some (.int k))
    (hs : (P.info? e).map (·.size) = some 1) (hl : l.length = n) (hm : m.length = n) :
    (Op.equalIn (d + 2) t (.agg (cellsOf k l)) (.agg (cellsOf k m))).run P w = .ok (l == m) w := by
  rw [run_equalIn_array w (d + 1) (cellsOf k l) (cellsOf k m) (fun i => ((l.getD i 0 : Nat) : Int) == ((m.getD i 0 : Nat) : Int)) ht hs]
  · rw [← all_getD l m (by omega), hl]
  · intro i hi
    simp only [Sem.run_bind, run_part_num w he rfl k l i (by omega), run_part_num w he rfl k m i (by omega), Result.andThen_ok, run_equalIn_int w d e k k _ _ he]
end
end Go.Bul
namespace Go.Proofs.YtpigmibaeoceaaaDoor
open Go Go.RowKit Go.Bul
/-- What a word holds after k of its bytes. -/
def pw (b : List Nat) (j : Nat) : Nat → Nat
  | 0 => 0
  | k + 1 => pw b j k * 256 + b.getD (4 * j + k) 0
theorem pw_lt {b : List Nat} (hb : Bytes b) (j : Nat) : ∀ k, pw b j k < 256 ^ k
  | 0 => by simp [pw]
  | k + 1 => by
    have h1 := pw_lt hb j k
    have h2 := hb.getD (4 * j + k)
    rw [pw, Nat.pow_succ]
    omega
theorem pw_four (b : List Nat) (j : Nat) : pw b j 4 = word b j := by simp [pw, word]
def LoadInv (b : List Nat) (i : Nat) (l : List Nat) : Prop := l.length = 16 ∧ ∀ j, j < 16 → l.getD j 0 = pw b j (min (i - 4 * j) 4)
theorem LoadInv.start (b : List Nat) : LoadInv b 0 (List.replicate 16 0) := by
  refine ⟨by simp, fun j hj => ?_⟩
  rw [List.getD_eq_getElem?_getD, List.getElem?_replicate, if_pos hj]
  simp [pw]
theorem LoadInv.next {b : List Nat} {i : Nat} {l : List Nat} (h : LoadInv b i l) (hi : i < 64) : LoadInv b (i + 1) (l.set (i / 4) (l.getD (i / 4) 0 * 256 + b.getD i 0)) := by
  refine ⟨by simp [h.1], fun j hj => ?_⟩
  rw [getD_set _ _ _ _ (by rw [h.1]; omega)]
  split
  · rename_i e
    subst e
    rw [h.2 _ (by omega), show min (i + 1 - 4 * (i / 4)) 4 = min (i - 4 * (i / 4)) 4 + 1 by omega, pw, show 4 * (i / 4) + min (i - 4 * (i / 4)) 4 = i by omega]
  · rename_i e
    rw [h.2 j hj, show min (i + 1 - 4 * j) 4 = min (i - 4 * j) 4 by omega]
theorem or_byte (x c : Nat) (hx : x * 256 < 4294967296) (hc : c < 256) (q : Int) (hq : q = (x : Int) * 256) : bits .or .u32 q ↑c = ((x * 256 + c : Nat) : Int) := by
  have h : q = ((x * 256 : Nat) : Int) := by rw [hq]; omega
  rw [h, u32_or_nat _ _ hx (by omega)]
  have := Nat.shiftLeft_add_eq_or_of_lt (i := 8) (b := c) (by omega) x
  rw [Nat.shiftLeft_eq] at this
  rw [← this]
structure LoadW (W : World) (b : List Nat) (i : Nat) (w : World) : Prop where
  win : ∃ l, LoadInv b i l ∧ Blk w (W.heap.size + 1 + 1) 102 (cellsOf .u32 l)
  r : ∃ l : List Nat, l.length = 16 ∧ Blk w (W.heap.size + 1) 102 (cellsOf .u32 l)
  old : Below W.heap.size W w
theorem zero_w16 : (Tryd.prog.info? 102).map (·.zero) = some (some (.agg (cellsOf .u32 (List.replicate 16 0)))) := by kernel_rfl
theorem size_w16 : (Tryd.prog.info? 102).map (·.size) = some 16 := by kernel_rfl
theorem size_b64 : (Tryd.prog.info? 97).map (·.size) = some 64 := by kernel_rfl
theorem size_u8 : (Tryd.prog.info? 5).map (·.size) = some 1 := by kernel_rfl
theorem size_u32 : (Tryd.prog.info? 81).map (·.size) = some 1 := by kernel_rfl
set_option maxHeartbeats 1000000 in
theorem load_any (b : List Nat) (w : World) (hb : Bytes b) (hl : b.length = 64) :
    Calls Tryd.prog 52 #[.agg (cellsOf .u8 b)] w fun e w' => e = .returned (.agg (cellsOf .u32 ((List.range 16).map (word b)))) ∧ Below w.heap.size w w' := by
  have HL := Lib.hid hl
  clear hl
  go_enter Tryd.func52, Tryd.ntmps52
  go_wp2_with (first
    | (with_reducible refine wpList_alloc_zero rfl 102 rfl _ zero_w16 ?_)
    | (with_reducible refine wpList_load_blk rfl 97 (.tmp 1) rfl w.heap.size rfl _ _ 64 _ (((Blk.new' w _ _ _ rfl).alloc _).alloc _) Tryd.underlying97 rfl size_b64 ((cellsOf_size _ _).trans HL.out) ?_))
  go_loopw [7] (fun i wr => ∃ k : Nat, k ≤ 64 ∧ i = .int .i64 k ∧ LoadW w b k wr) (fun i _ => 64 - (intOf i).toNat)
  case atStart =>
    refine ⟨0, by omega, rfl, ⟨_, LoadInv.start b, Blk.new' _ _ _ _ (by simp)⟩, ⟨_, by simp, (Blk.new' _ _ (cellsOf .u32 (List.replicate 16 0)) _ (by simp)).alloc _⟩, ?_⟩
    repeat' (first | with_reducible exact Below.refl _ _ | with_reducible assumption | with_reducible refine Below.setCell ?_ ?_ _ | with_reducible refine below_drewN ?_ _ | with_reducible refine Below.drew ?_ | with_reducible refine Below.alloc ?_ ?_ _)
    all_goals first | (simp; done) | (simp; omega) | omega
  case round =>
    obtain ⟨k, hk, rfl, hI⟩ := hrel
    obtain ⟨⟨l, hl, hW⟩, ⟨lr, hlr, hR⟩, hold⟩ := hI
    by_cases hlt : k < 64
    · obtain ⟨c, hc⟩ : ∃ c, c = b.getD k 0 := ⟨_, rfl⟩
      obtain ⟨x, hx⟩ : ∃ x, x = l.getD (k / 4) 0 := ⟨_, rfl⟩
      obtain ⟨j, hj⟩ : ∃ j, j = k / 4 := ⟨_, rfl⟩
      have ix : ∀ W, (Instr.index 97 (.agg (cellsOf .u8 b)) (.int .i64 (k : Nat))).run Tryd.prog W = .ok (.int .u8 (c : Nat)) W := fun W => by
        rw [hc]; exact run_index_num Tryd.underlying97 Tryd.underlying5 rfl size_u8 b k HL.out hlt W
      have hc' : c < 256 := by rw [hc]; exact hb.getD _
      have hx' : x * 256 < 4294967296 := by
        rw [hx, hl.2 _ (by omega)]
        have := pw_lt hb (k / 4) (min (k - 4 * (k / 4)) 4)
        have h3 : min (k - 4 * (k / 4)) 4 ≤ 3 := by omega
        have := Nat.pow_le_pow_right (n := 256) (by omega) h3
        omega
      have ej : (k : Int) / 4 = (j : Int) := by omega
      have bj : (j : Int) < 16 := by omega
      have cj : wr.cell? ⟨w.heap.size + 1 + 1, j, none⟩ = some (.int .u32 (x : Nat)) := by rw [hW.num (by rw [hl.1]; omega), hj, hx]
      have fj : wr.frozen? ⟨w.heap.size + 1 + 1, j, none⟩ = false := hW.free _
      have hor := or_byte x c hx' hc' _ rfl
      have H := Lib.hid (And.intro hc (And.intro hx hj))
      clear hc hx hj
      go_wp2_with fail
      go_roundw
      case measure => simp [intOf]; omega
      obtain ⟨hc, hx, hj⟩ := H.out
      refine ⟨k + 1, by omega, by go_num, ⟨_, hl.next hlt, ?_⟩, ⟨lr, hlr, hR.far (by dsimp only; omega) _⟩, hold.setCell (by dsimp only; omega) _⟩
      rw [← hj, ← hc, ← cellsOf_set, show l.getD j 0 = x by rw [hx, hj]]
      exact hW.set _ _
    · obtain rfl : k = 64 := by omega
      have hlast : l = (List.range 16).map (word b) := by
        apply List.ext_getElem (by simp [hl.1])
        intro i h1 h2
        have hi : i < 16 := by rw [hl.1] at h1; exact h1
        have := hl.2 i hi
        rw [show min (64 - 4 * i) 4 = 4 by omega, pw_four] at this
        simpa [h1] using this
      rw [hlast] at hW
      go_wp2_with (first
        | (with_reducible refine wpList_load_blk rfl 102 (.tmp 3) rfl _ rfl _ _ 16 _ hW Tryd.underlying102 rfl size_w16 (by simp) ?_)
        | ((with_reducible refine wpList_store_blk rfl 102 (.tmp 2) (.tmp 23) rfl _ rfl _ rfl _ _ 16 hR size_w16 (by simp) (by simp [hlr]) (vals_one _ _) rfl ?_); intro w2 hw2))
      exact bodyPost_ret (results_cell_row rfl _ _ (w.heap.size + 1) _ _ _ _ rfl (by rw [hw2]; exact hR.row _) Tryd.underlying102 rfl (by rw [size_w16]; simp)) rfl ⟨rfl, by rw [hw2]; exact below_setRow hold (by omega) _⟩
end Go.Proofs.YtpigmibaeoceaaaDoor
namespace Go.Proofs.YtpigmibaeoceaaaDoor
open Go Go.RowKit Go.Bul
theorem zero_dig : (Tryd.prog.info? 88).map (·.zero) = some (some (.agg (cellsOf .u8 (List.replicate 32 0)))) := by kernel_rfl
theorem size_dig : (Tryd.prog.info? 88).map (·.size) = some 32 := by kernel_rfl
theorem out_getD (v : Bul.St) (i : Nat) (hi : i < 8) : v.out.getD (4 * i) 0 = v.list.getD i 0 / 16777216 % 256 ∧ v.out.getD (4 * i + 1) 0 = v.list.getD i 0 / 65536 % 256 ∧ v.out.getD (4 * i + 2) 0 = v.list.getD i 0 / 256 % 256 ∧ v.out.getD (4 * i + 3) 0 = v.list.getD i 0 % 256 := by
  rw [Bul.St.out_eq]
  rcases (show i = 0 ∨ i = 1 ∨ i = 2 ∨ i = 3 ∨ i = 4 ∨ i = 5 ∨ i = 6 ∨ i = 7 by omega) with rfl | rfl | rfl | rfl | rfl | rfl | rfl | rfl <;> exact ⟨rfl, rfl, rfl, rfl⟩
def DigInv (v : Bul.St) (i : Nat) (l : List Nat) : Prop := l.length = 32 ∧ ∀ j, j < 4 * i → l.getD j 0 = v.out.getD j 0
theorem DigInv.next {v : Bul.St} {i : Nat} {l : List Nat} (h : DigInv v i l) (hi : i < 8) (x : Nat) (hx : x = v.list.getD i 0) (l' : List Nat)
    (hl : l' = (((l.set (4 * i) (x / 16777216 % 256)).set (4 * i + 1) (x / 65536 % 256)).set (4 * i + 2) (x / 256 % 256)).set (4 * i + 3) (x % 256)) : DigInv v (i + 1) l' := by
  subst hl
  have hlen := h.1
  have ho := out_getD v i hi
  rw [← hx] at ho
  refine ⟨by simp [hlen], fun j hj => ?_⟩
  rw [getD_set _ _ _ _ (by simp [hlen]; omega), getD_set _ _ _ _ (by simp [hlen]; omega), getD_set _ _ _ _ (by simp [hlen]; omega), getD_set _ _ _ _ (by omega)]
  by_cases h3 : 4 * i + 3 = j
  · rw [if_pos h3, ← h3]; exact ho.2.2.2.symm
  rw [if_neg h3]
  by_cases h2 : 4 * i + 2 = j
  · rw [if_pos h2, ← h2]; exact ho.2.2.1.symm
  rw [if_neg h2]
  by_cases h1 : 4 * i + 1 = j
  · rw [if_pos h1, ← h1]; exact ho.2.1.symm
  rw [if_neg h1]
  by_cases h0 : 4 * i = j
  · rw [if_pos h0, ← h0]; exact ho.1.symm
  rw [if_neg h0]
  exact h.2 j (by omega)
theorem DigInv.done {v : Bul.St} {l : List Nat} (h : DigInv v 8 l) : l = v.out := by
  apply List.ext_getElem (by rw [h.1, Bul.out_length])
  intro i h1 h2
  have := h.2 i (by rw [h.1] at h1; omega)
  simpa [h1, h2] using this
structure DigW (W : World) (v : Bul.St) (i : Nat) (w : World) : Prop where
  d : ∃ l, DigInv v i l ∧ Blk w (W.heap.size + 1 + 1) 88 (cellsOf .u8 l)
  r : ∃ l : List Nat, l.length = 32 ∧ Blk w (W.heap.size + 1) 88 (cellsOf .u8 l)
  old : Below W.heap.size W w
set_option maxRecDepth 20000 in
set_option maxHeartbeats 1000000 in
theorem digest_any (v : Bul.St) (w : World) (hv : v.Ok) :
    Calls Tryd.prog 53 #[stv v] w fun e w' => e = .returned (.agg (cellsOf .u8 v.out)) ∧ Below w.heap.size w w' := by
  rw [stv_eq v]
  go_enter Tryd.func53, Tryd.ntmps53
  go_wp2_with (first
    | (with_reducible refine wpList_alloc_zero rfl 88 rfl _ zero_dig ?_))
  go_loopw [24] (fun i wr => ∃ k : Nat, k ≤ 8 ∧ i = .int .i64 k ∧ DigW w v k wr) (fun i _ => 8 - (intOf i).toNat)
  case atStart =>
    refine ⟨0, by omega, rfl, ⟨_, ⟨by simp, fun j hj => by omega⟩, Blk.new' _ _ (cellsOf .u8 (List.replicate 32 0)) _ (by simp)⟩, ⟨_, by simp, (Blk.new' _ _ (cellsOf .u8 (List.replicate 32 0)) _ (by simp)).alloc _⟩, ?_⟩
    repeat' (first | with_reducible exact Below.refl _ _ | with_reducible assumption | with_reducible refine Below.setCell ?_ ?_ _ | with_reducible refine below_drewN ?_ _ | with_reducible refine Below.drew ?_ | with_reducible refine Below.alloc ?_ ?_ _)
    all_goals first | (simp; done) | (simp; omega) | omega
  case round =>
    obtain ⟨k, hk, rfl, hI⟩ := hrel
    obtain ⟨⟨l, hl, hW⟩, ⟨lr, hlr, hR⟩, hold⟩ := hI
    by_cases hlt : k < 8
    · obtain ⟨x, hx⟩ : ∃ x, x = v.list.getD k 0 := ⟨_, rfl⟩
      have ix : ∀ W, (Instr.index 82 (.agg #[.int .u32 v.a, .int .u32 v.b, .int .u32 v.c, .int .u32 v.d, .int .u32 v.e, .int .u32 v.f, .int .u32 v.g, .int .u32 v.h]) (.int .i64 (k : Nat))).run Tryd.prog W = .ok (.int .u32 (x : Nat)) W := fun W => by
        rw [hx]; exact run_index_num (l := v.list) Tryd.underlying82 Tryd.underlying81 rfl size_u32 k rfl hlt W
      have hx' : x < 4294967296 := by
        rw [hx]
        obtain ⟨h1, h2, h3, h4, h5, h6, h7, h8⟩ := hv
        rcases (show k = 0 ∨ k = 1 ∨ k = 2 ∨ k = 3 ∨ k = 4 ∨ k = 5 ∨ k = 6 ∨ k = 7 by omega) with rfl | rfl | rfl | rfl | rfl | rfl | rfl | rfl <;> assumption
      have hlen := hl.1
      have g0 : ∀ i, i < 32 → wr.cell? ⟨w.heap.size + 1 + 1, i, none⟩ = some (.int .u8 (l.getD i 0 : Nat)) := fun i hi => hW.num (by omega)
      have c0 := g0 (4 * k) (by omega)
      have c1 := g0 (4 * k + 1) (by omega)
      have c2 := g0 (4 * k + 2) (by omega)
      have c3 := g0 (4 * k + 3) (by omega)
      have f0 : wr.frozen? ⟨w.heap.size + 1 + 1, 4 * k, none⟩ = false := hW.free _
      have f1 : wr.frozen? ⟨w.heap.size + 1 + 1, 4 * k + 1, none⟩ = false := hW.free _
      have f2 : wr.frozen? ⟨w.heap.size + 1 + 1, 4 * k + 2, none⟩ = false := hW.free _
      have f3 : wr.frozen? ⟨w.heap.size + 1 + 1, 4 * k + 3, none⟩ = false := hW.free _
      have H := Lib.hid (And.intro hx hlen)
      clear hx hlen g0
      go_wp2_with fail
      refine wp_loop_rounds 5 ?_
      rw [rounds_succ]; go_wp2_with fail
      rw [rounds_succ]; go_wp2_with fail
      rw [rounds_succ]; go_wp2_with fail
      rw [rounds_succ]; go_wp2_with fail
      rw [rounds_succ]; go_wp2_with fail
      obtain ⟨hx, hlen⟩ := H.out
      have q0 : (x : Int) / (16777216 : Int) = ((x / 16777216 % 256 : Nat) : Int) := by omega
      have q1 : (x : Int) / (65536 : Int) % (256 : Int) = ((x / 65536 % 256 : Nat) : Int) := by omega
      have q2 : (x : Int) / (256 : Int) % (256 : Int) = ((x / 256 % 256 : Nat) : Int) := by omega
      have q3 : (x : Int) % (256 : Int) = ((x % 256 : Nat) : Int) := by omega
      refine ⟨⟨k + 1, by omega, by go_num, ⟨_, hl.next hlt x hx _ rfl, ?_⟩, ⟨lr, hlr, (((hR.far (by dsimp only; omega) _).far (by dsimp only; omega) _).far (by dsimp only; omega) _).far (by dsimp only; omega) _⟩,
        (((hold.setCell (by dsimp only; omega) _).setCell (by dsimp only; omega) _).setCell (by dsimp only; omega) _).setCell (by dsimp only; omega) _⟩, by simp [intOf]; omega⟩
      rw [q0, q1, q2, q3, ← cellsOf_set, ← cellsOf_set, ← cellsOf_set, ← cellsOf_set]
      exact (((hW.set _ _).set _ _).set _ _).set _ _
    · obtain rfl : k = 8 := by omega
      rw [hl.done] at hW
      go_wp2_with (first
        | (with_reducible refine wpList_load_blk rfl 88 (.tmp 3) rfl _ rfl _ _ 32 _ hW Tryd.underlying88 rfl size_dig (by simp [Bul.out_length]) ?_)
        | ((with_reducible refine wpList_store_blk rfl 88 (.tmp 2) (.tmp 44) rfl _ rfl _ rfl _ _ 32 hR size_dig (by simp [Bul.out_length]) (by simp [hlr]) (vals_one _ _) rfl ?_); intro w2 hw2))
      exact bodyPost_ret (results_cell_row rfl _ _ (w.heap.size + 1) _ _ _ _ rfl (by rw [hw2]; exact hR.row _) Tryd.underlying88 rfl (by rw [size_dig]; simp [Bul.out_length])) rfl ⟨rfl, by rw [hw2]; exact below_setRow hold (by omega) _⟩
end Go.Proofs.YtpigmibaeoceaaaDoor
