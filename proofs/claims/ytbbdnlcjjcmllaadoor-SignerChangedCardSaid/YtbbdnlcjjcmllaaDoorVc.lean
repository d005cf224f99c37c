/- Memory: a block that is known whole; rows of numbers; what a contract leaves. Contract of sha256.process: the plain definition's compress. Conditions: the state's words are below 2^32, the block has sixteen words below 2^32, the table of constants lies in its variable. Operations on whole rows: a struct or an array loaded from a block, stored into one, laid anew; equality of arrays of numbers. -/
import Derived.Test.YtbbdnlcjjcmllaaDoorVb
import Derived.Below
import Derived.Laws.OwnMore
import Derived.Laws.Rows
import Derived.Deep.Draws
import Derived.Lib.Hide
import Derived.OwnWalk
import Derived.StillTailTactics
import Derived.Laws.CopyOwn
import Derived.Laws.StructEq
import Derived.WalkKit
namespace Go.Bul
open Go Go.RowKit
/-- Numbers of one kind, as cells. -/
def vals (k : IntKind) (l : List Nat) : List Value := l.map fun (n : Nat) => Value.int k (n : Int)
def cellsOf (k : IntKind) (l : List Nat) : Array Value := (vals k l).toArray
@[simp] theorem vals_length (k : IntKind) (l : List Nat) : (vals k l).length = l.length := by simp [vals]
@[simp] theorem cellsOf_size (k : IntKind) (l : List Nat) : (cellsOf k l).size = l.length := by simp [cellsOf]
theorem vals_get (k : IntKind) (l : List Nat) (i : Nat) : (vals k l)[i]? = (l[i]?).map fun (n : Nat) => Value.int k (n : Int) := by simp [vals]
theorem cellsOf_get (k : IntKind) (l : List Nat) (i : Nat) (h : i < l.length) : (cellsOf k l)[i]? = some (.int k (l.getD i 0 : Nat)) := by
  simp [cellsOf, vals, h]
theorem cellsOf_set (k : IntKind) (l : List Nat) (i v : Nat) : (cellsOf k l).setIfInBounds i (.int k v) = cellsOf k (l.set i v) := by
  simp [cellsOf, vals, List.map_set]
theorem vals_one (k : IntKind) (l : List Nat) : ∀ u ∈ vals k l, u.oneCell' = true := by
  intro u hu
  obtain ⟨n, _, rfl⟩ := List.mem_map.1 hu
  rfl

/-- Block g is just these cells of element type t, none frozen. -/
def Blk (w : World) (g : Nat) (t : TypeId) (cs : Array Value) : Prop := w.heap[g]? = some (.cells cs t (0, 0))
section
variable {w w' : World} {g : Nat} {t : TypeId} {cs : Array Value}
theorem Blk.lt (h : Blk w g t cs) : g < w.heap.size := (Array.getElem?_eq_some_iff.1 h).1
theorem Blk.cell (h : Blk w g t cs) (i : Nat) : w.cell? ⟨g, i, none⟩ = cs[i]? := cell_of_row w g i cs t (0, 0) h
theorem Blk.free (h : Blk w g t cs) (i : Nat) : w.frozen? ⟨g, i, none⟩ = false := frozen_of_row w g i cs t h
theorem Blk.num {k : IntKind} {l : List Nat} (h : Blk w g t (cellsOf k l)) {i : Nat} (hi : i < l.length) : w.cell? ⟨g, i, none⟩ = some (.int k (l.getD i 0 : Nat)) := by
  rw [h.cell, cellsOf_get k l i hi]
theorem Blk.new (w : World) (t : TypeId) (cs : Array Value) : Blk (w.alloc (.cells cs t)) w.heap.size t cs := heap_alloc_new w _
theorem Blk.new' (w : World) (t : TypeId) (cs : Array Value) (n : Nat) (hn : n = w.heap.size) : Blk (w.alloc (.cells cs t)) n t cs := hn ▸ Blk.new w t cs
theorem Blk.drewN (h : Blk w g t cs) (n : Nat) : Blk (w.drewN n) g t cs := h
theorem Blk.drew (h : Blk w g t cs) : Blk w.drew g t cs := h
theorem Blk.alloc (h : Blk w g t cs) (o : Obj) : Blk (w.alloc o) g t cs := (Below.heap_alloc w o g h.lt).trans h
theorem Blk.set (h : Blk w g t cs) (i : Nat) (u : Value) : Blk (w.setCell ⟨g, i, none⟩ u) g t (cs.setIfInBounds i u) := heap_setCell_same w g i cs t u h
theorem Blk.far (h : Blk w g t cs) {p : Addr} (hp : g ≠ p.block) (u : Value) : Blk (w.setCell p u) g t cs := (Below.heap_setCell w p u g hp).trans h
theorem Blk.below {B : Nat} (h : Blk w g t cs) (hb : Below B w w') (hg : g < B) : Blk w' g t cs := (hb.block g hg).trans h
theorem Blk.kept (h : Blk w g t cs) (hb : Below w.heap.size w w') : Blk w' g t cs := h.below hb h.lt
end
/-- Only block g, and what is new, has turned. -/
def Only (g : Nat) (w w' : World) : Prop := w.grownBy w' (some g)
theorem Only.refl (g : Nat) (w : World) : Only g w w := World.grownBy.refl w _
theorem Only.trans {g : Nat} {a b c : World} (h : Only g a b) (k : Only g b c) : Only g a c :=
  ⟨k.os.trans h.os, k.tape.trans h.tape, k.output.trans h.output, Nat.le_trans h.size k.size, fun i hi hne => (k.block i (Nat.lt_of_lt_of_le hi h.size) hne).trans (h.block i hi hne)⟩
theorem Only.of_below {g : Nat} {w w' : World} (h : Below w.heap.size w w') : Only g w w' := ⟨h.os, h.tape, h.output, h.size, fun i hi _ => h.block i hi⟩
theorem Only.below {g : Nat} {a w w' : World} (h : Only g a w) (k : Below w.heap.size w w') : Only g a w' := h.trans (.of_below k)
theorem Only.setCell {g : Nat} {a w : World} (h : Only g a w) (i : Nat) (u : Value) : Only g a (w.setCell ⟨g, i, none⟩ u) :=
  h.trans ⟨rfl, rfl, rfl, by simp [World.setCell], fun i _ hne => Below.heap_setCell _ _ _ _ (by rintro rfl; exact hne rfl)⟩
theorem Only.setRow {g : Nat} {a w : World} (h : Only g a w) (X : Array Value) : Only g a (w.setRow g X) :=
  h.trans ⟨rfl, rfl, rfl, by simp [World.setRow], fun i _ hne => setRow_other _ _ _ _ (by rintro rfl; exact hne rfl)⟩
theorem Only.drew {g : Nat} {a w : World} (h : Only g a w) : Only g a w.drew := ⟨h.os, h.tape, h.output, h.size, h.block⟩
theorem Only.to_below' {g B : Nat} {a w : World} (h : Only g a w) (hg : B ≤ g) (hB : B ≤ a.heap.size) : Below B a w := ⟨h.os, h.tape, h.output, h.size, fun i hi => h.block i (by omega) (by rintro ⟨⟩; omega)⟩
theorem Blk.only {w w' : World} {g k : Nat} {t : TypeId} {cs : Array Value} (h : Blk w k t cs) (ho : Only g w w') (hne : k ≠ g) : Blk w' k t cs := (ho.block k h.lt (by rintro ⟨⟩; exact hne rfl)).trans h
/-- One operation of a quiet walk in a class of worlds: its value is one and the same in every world of the class. -/
theorem quiet_plain {P : Program} {ops : Array Oper} {C : World → Prop} {o : Oper} {a : Act} {K : Act → Prop} (hg : o.guard = none) (v : Value)
    (h1 : ∀ w, C w → o.quietAt P a C w v) (h2 : K (a.put o.dst v)) : if Region.wanted o (yielded ops a.tmps) then o.quiet P a C K else K (a.put o.dst undef) := by
  rw [if_pos (by simp [Region.wanted, hg])]
  exact ⟨v, h1, h2⟩
theorem quiet_some {P : Program} {ops : Array Oper} {C : World → Prop} {o : Oper} {a : Act} {K : Act → Prop} (hg : o.guard = none)
    (h : ∃ v, (∀ w, C w → o.quietAt P a C w v) ∧ K (a.put o.dst v)) : if Region.wanted o (yielded ops a.tmps) then o.quiet P a C K else K (a.put o.dst undef) :=
  let ⟨v, h1, h2⟩ := h
  quiet_plain hg v h1 h2
theorem Below.step {w w1 w2 : World} (h : Below w.heap.size w w1) (k : Below w1.heap.size w1 w2) : Below w.heap.size w w2 := h.trans (k.mono h.size)
/-- A contract that leaves old memory as it was, met in a class of worlds that do. -/
theorem quiet_call {P : Program} {f : FuncId} {args : Array Value} {w w' : World} {v : Value} (hw : Below w.heap.size w w')
    (h : Calls P f args w' fun e w'' => e = .returned v ∧ Below w'.heap.size w' w'') : Calls P f args w' fun e w'' => e = .returned v ∧ Below w.heap.size w w'' :=
  h.mono fun _ _ ⟨he, hb⟩ => ⟨he, Below.step hw hb⟩
theorem wp_named {P : Program} {c : Code} {Q : Exit → Act → World → Prop} {a : Act} {w : World} (h : ∀ w', w' = w → c.wp P Q a w') : c.wp P Q a w := h w rfl
/-- An element of an array of numbers that is a value. -/
theorem run_index_num {P : Program} {T e : TypeId} {k : IntKind} {n : Nat} {d : TypeDesc} (hT : P.underlying T = some (.array n e)) (hE : P.underlying e = some d) (hd : (match d with | .struct _ | .array _ _ => true | _ => false) = false)
    (hS : (P.info? e).map (·.size) = some 1) (l : List Nat) (i : Nat) (hl : l.length = n) (hi : i < n) (w : World) :
    (Instr.index T (.agg (cellsOf k l)) (.int .i64 (i : Nat))).run P w = .ok (.int k (l.getD i 0 : Nat)) w := by
  cases hq : P.info? e with
  | none => simp [hq] at hS
  | some j =>
    have hj : j.size = 1 := by simpa [hq] using hS
    have hg := cellsOf_get k l i (by omega)
    have ha : (isAgg e).run P w = .ok false w := by
      unfold isAgg
      rw [Sem.run_bind, run_underlying hE w]
      cases d <;> simp_all
    simp [Instr.index, asIntOf, run_underlying hT, sizeOf, typeInfo, hq, hj, part, Sem.run_bind, ha, hi, hg]
end Go.Bul
namespace Go.Proofs.YtbbdnlcjjcmllaaDoor
open Go Go.RowKit Go.Bul
/-- The table of the rounds' constants lies in the variable. -/
def Tab (w : World) : Prop := ∀ i, i < 64 → w.cell? ⟨1, i, none⟩ = some (.int .u32 (Bul.K i : Nat))
def Win (m : Nat → Nat) (t : Nat) (l : List Nat) : Prop := l.length = 16 ∧ ∀ i, i < max t 16 → t ≤ i + 16 → l.getD (i % 16) 0 = Bul.W m i
/-- The eight words of a state, as cells. -/
def stc (v : Bul.St) : Array Value := cellsOf .u32 v.list
theorem stc_eq (v : Bul.St) : stc v = #[.int .u32 v.a, .int .u32 v.b, .int .u32 v.c, .int .u32 v.d, .int .u32 v.e, .int .u32 v.f, .int .u32 v.g, .int .u32 v.h] := rfl
theorem stv_eq (v : Bul.St) : stv v = .agg #[.int .u32 v.a, .int .u32 v.b, .int .u32 v.c, .int .u32 v.d, .int .u32 v.e, .int .u32 v.f, .int .u32 v.g, .int .u32 v.h] := rfl
theorem Tab.keep {w w' : World} (h : Tab w) (hb : Below w.heap.size w w') : Tab w' := fun i hi => by
  have h0 := h i hi
  have hlt : 1 < w.heap.size := block_lt_of_cell (h 0 (by omega))
  rw [hb.cell (p := ⟨_, i, none⟩) hlt]
  exact h0
theorem Win.start {m : Nat → Nat} {l : List Nat} (hl : l.length = 16) (hm : ∀ j, j < 16 → l.getD j 0 = m j) : Win m 0 l := by
  refine ⟨hl, fun i hi _ => ?_⟩
  have hi' : i < 16 := by omega
  rw [Nat.mod_eq_of_lt hi', hm i hi', Bul.W_lo m hi']
theorem Win.lo {m : Nat → Nat} {t : Nat} {l : List Nat} (h : Win m t l) (ht : t < 16) : Win m (t + 1) l := by
  refine ⟨h.1, fun i hi hi' => h.2 i (by omega) (by omega)⟩
theorem getD_set (l : List Nat) (i j x : Nat) (hi : i < l.length) : (l.set i x).getD j 0 = if i = j then x else l.getD j 0 := by
  rw [List.getD_eq_getElem?_getD, List.getD_eq_getElem?_getD, List.getElem?_set]
  split
  · rename_i h
    subst h
    simp
  · rfl
theorem Win.hi {m : Nat → Nat} {t : Nat} {l : List Nat} (h : Win m t l) (ht : 16 ≤ t) : Win m (t + 1) (l.set (t % 16) (Bul.W m t)) := by
  have hl := h.1
  refine ⟨by simp [hl], fun i hi hi' => ?_⟩
  rw [getD_set _ _ _ _ (by omega)]
  split
  · rename_i he
    have : i = t := by omega
    rw [this]
  · rename_i he
    have : i ≠ t := fun e => he (by rw [e])
    exact h.2 i (by omega) (by omega)
theorem s0_int (x : Nat) (hx : x < 4294967296) : bits .xor .u32 (bits .xor .u32 ↑(rotr x 7) ↑(rotr x 18)) (↑x / 8) = ((Bul.s0 x : Nat) : Int) := by
  have h : (x : Int) / (8 : Int) = ((x >>> 3 : Nat) : Int) := by rw [Nat.shiftRight_eq_div_pow]; omega
  rw [h, u32_xor_nat _ _ (rotr_lt _ _ hx) (rotr_lt _ _ hx), u32_xor_nat _ _ (xor_lt32 (rotr_lt _ _ hx) (rotr_lt _ _ hx)) (by rw [Nat.shiftRight_eq_div_pow]; omega), Bul.s0]
theorem s1_int (x : Nat) (hx : x < 4294967296) : bits .xor .u32 (bits .xor .u32 ↑(rotr x 17) ↑(rotr x 19)) (↑x / 1024) = ((Bul.s1 x : Nat) : Int) := by
  have h : (x : Int) / (1024 : Int) = ((x >>> 10 : Nat) : Int) := by rw [Nat.shiftRight_eq_div_pow]; omega
  rw [h, u32_xor_nat _ _ (rotr_lt _ _ hx) (rotr_lt _ _ hx), u32_xor_nat _ _ (xor_lt32 (rotr_lt _ _ hx) (rotr_lt _ _ hx)) (by rw [Nat.shiftRight_eq_div_pow]; omega), Bul.s1]
/-- Eight stores into a block of eight cells. -/
def set8 (w : World) (g : Nat) (v : Bul.St) : World :=
  (((((((w.setCell ⟨g, 0, none⟩ (.int .u32 v.a)).setCell ⟨g, 1, none⟩ (.int .u32 v.b)).setCell ⟨g, 2, none⟩ (.int .u32 v.c)).setCell ⟨g, 3, none⟩ (.int .u32 v.d)).setCell ⟨g, 4, none⟩ (.int .u32 v.e)).setCell ⟨g, 5, none⟩ (.int .u32 v.f)).setCell ⟨g, 6, none⟩ (.int .u32 v.g)).setCell ⟨g, 7, none⟩ (.int .u32 v.h)
theorem eight_set {cs : Array Value} (hs : cs.size = 8) (a b c d e f g h : Value) :
    (((((((cs.setIfInBounds 0 a).setIfInBounds 1 b).setIfInBounds 2 c).setIfInBounds 3 d).setIfInBounds 4 e).setIfInBounds 5 f).setIfInBounds 6 g).setIfInBounds 7 h = #[a, b, c, d, e, f, g, h] := by
  obtain ⟨l⟩ := cs
  rcases l with _ | ⟨c0, _ | ⟨c1, _ | ⟨c2, _ | ⟨c3, _ | ⟨c4, _ | ⟨c5, _ | ⟨c6, _ | ⟨c7, _ | ⟨c8, r⟩⟩⟩⟩⟩⟩⟩⟩⟩
  all_goals first | (simp at hs; done) | (simp at hs; omega) | simp
theorem set8_blk {w : World} {g : Nat} {t : TypeId} {cs : Array Value} (v : Bul.St) (h : Blk w g t cs) (hs : cs.size = 8) : Blk (set8 w g v) g t (stc v) := by
  have h' := (((((((h.set 0 (.int .u32 v.a)).set 1 (.int .u32 v.b)).set 2 (.int .u32 v.c)).set 3 (.int .u32 v.d)).set 4 (.int .u32 v.e)).set 5 (.int .u32 v.f)).set 6 (.int .u32 v.g)).set 7 (.int .u32 v.h)
  rw [eight_set hs] at h'
  exact h'
theorem set8_far {w : World} {g g' : Nat} {t : TypeId} {cs : Array Value} (v : Bul.St) (h : Blk w g' t cs) (hg : g' ≠ g) : Blk (set8 w g v) g' t cs :=
  (((((((h.far (p := ⟨g, 0, none⟩) hg _).far (p := ⟨g, 1, none⟩) hg _).far (p := ⟨g, 2, none⟩) hg _).far (p := ⟨g, 3, none⟩) hg _).far (p := ⟨g, 4, none⟩) hg _).far (p := ⟨g, 5, none⟩) hg _).far (p := ⟨g, 6, none⟩) hg _).far (p := ⟨g, 7, none⟩) hg _
theorem set8_below {a w : World} {B g : Nat} (v : Bul.St) (h : Below B a w) (hg : B ≤ g) : Below B a (set8 w g v) :=
  (((((((h.setCell (p := ⟨g, 0, none⟩) hg _).setCell (p := ⟨g, 1, none⟩) hg _).setCell (p := ⟨g, 2, none⟩) hg _).setCell (p := ⟨g, 3, none⟩) hg _).setCell (p := ⟨g, 4, none⟩) hg _).setCell (p := ⟨g, 5, none⟩) hg _).setCell (p := ⟨g, 6, none⟩) hg _).setCell (p := ⟨g, 7, none⟩) hg _
structure ProcInv (W : World) (m : Nat → Nat) (v : Bul.St) (t : Nat) (w : World) : Prop where
  h : Blk w W.heap.size 143 (stc v)
  win : ∃ l, Win m t l ∧ Blk w (W.heap.size + 1) 148 (cellsOf .u32 l)
  r : ∃ cs : Array Value, cs.size = 8 ∧ Blk w (W.heap.size + 1 + 1) 143 cs
  v : Blk w (W.heap.size + 1 + 1 + 1) 143 (stc (Bul.stAt m v t))
  old : Below W.heap.size W w
set_option maxRecDepth 20000 in
set_option maxHeartbeats 1000000 in
theorem process_any (v : Bul.St) (l : List Nat) (m : Nat → Nat) (w : World) (hv : v.Ok) (hl : l.length = 16) (hm : ∀ j, j < 16 → l.getD j 0 = m j) (hb : ∀ j, j < 16 → m j < 4294967296) (hT : Tab w) :
    Calls Tryd.prog 80 #[stv v, .agg (cellsOf .u32 l)] w fun e w' => e = .returned (stv (Bul.compress v m)) ∧ Below w.heap.size w w' := by
  rw [stv_eq v]
  have HT := Lib.hid hT
  have HL := Lib.hid hl
  have HM := Lib.hid hm
  have HB := Lib.hid hb
  clear hT hl hm hb
  go_enter Tryd.func80, Tryd.ntmps80
  go_wp2_with fail
  go_loopw [12] (fun i wr => ∃ t : Nat, t ≤ 64 ∧ i = .int .i64 t ∧ ProcInv w m v t wr) (fun i _ => 64 - (intOf i).toNat)
  case atStart =>
    refine ⟨0, by omega, rfl, ?_⟩
    exact ⟨(((Blk.new w _ _).alloc _).alloc _).alloc _, ⟨l, Win.start HL.out HM.out, ((Blk.new' _ _ _ _ (by simp)).alloc _).alloc _⟩, ⟨_, rfl, (Blk.new' _ _ _ _ (by simp)).alloc _⟩, Blk.new' _ _ (stc v) _ (by simp), (((((Below.refl _ _).alloc (Nat.le_refl _) _).alloc (by simp) _).alloc (by simp; omega) _).alloc (by simp; omega) _)⟩
  case round =>
    obtain ⟨t, ht, rfl, hI⟩ := hrel
    obtain ⟨hh, ⟨l', hw, hW⟩, ⟨cs, hcs, hr⟩, hv', hold⟩ := hI
    by_cases hlt : t < 64
    · by_cases h16 : 16 ≤ t
      · obtain ⟨x, hx⟩ : ∃ x, x = Bul.W m (t - 15) := ⟨_, rfl⟩
        obtain ⟨y, hy⟩ : ∃ y, y = Bul.W m (t - 2) := ⟨_, rfl⟩
        obtain ⟨j15, hj15⟩ : ∃ j, j = (t - 15) % 16 := ⟨_, rfl⟩
        obtain ⟨j2, hj2⟩ : ∃ j, j = (t - 2) % 16 := ⟨_, rfl⟩
        have e15 : (IntKind.i64.wrap (↑t - 15)).tmod 16 = (j15 : Int) := by rw [IntWalk.i64_in _ (by omega), Int.tmod_eq_emod_of_nonneg (by omega)]; omega
        have e2 : (IntKind.i64.wrap (↑t - 2)).tmod 16 = (j2 : Int) := by rw [IntWalk.i64_in _ (by omega), Int.tmod_eq_emod_of_nonneg (by omega)]; omega
        have b15 : (j15 : Int) < 16 := by omega
        have b2 : (j2 : Int) < 16 := by omega
        have c15 : wr.cell? ⟨w.heap.size + 1, j15, none⟩ = some (.int .u32 (x : Nat)) := by
          rw [hW.num (by rw [hw.1]; omega), hj15, hw.2 (t - 15) (by omega) (by omega), hx]
        have c2 : wr.cell? ⟨w.heap.size + 1, j2, none⟩ = some (.int .u32 (y : Nat)) := by
          rw [hW.num (by rw [hw.1]; omega), hj2, hw.2 (t - 2) (by omega) (by omega), hy]
        have bx : x < 4294967296 := by rw [hx]; exact Bul.W_lt HB.out _
        have by_ : y < 4294967296 := by rw [hy]; exact Bul.W_lt HB.out _
        have H := Lib.hid (And.intro hx (And.intro hy (And.intro hj15 hj2)))
        have R7 := Lib.hid (fun W => rot_any x 7 W bx (by simp [IsRot]) 7 rfl)
        have R18 := Lib.hid (fun W => rot_any x 18 W bx (by simp [IsRot]) 18 rfl)
        have R17 := Lib.hid (fun W => rot_any y 17 W by_ (by simp [IsRot]) 17 rfl)
        have R19 := Lib.hid (fun W => rot_any y 19 W by_ (by simp [IsRot]) 19 rfl)
        clear hx hy hj15 hj2
        have E0 : bits .xor .u32 (bits .xor .u32 ↑(rotr x 7) ↑(rotr x 18)) (↑x / 8) = ((Bul.s0 x : Nat) : Int) := s0_int x bx
        have E1 : bits .xor .u32 (bits .xor .u32 ↑(rotr y 17) ↑(rotr y 19)) (↑y / 1024) = ((Bul.s1 y : Nat) : Int) := s1_int y by_
        go_wp2_with fail
        go_quiet (fail)
        clear e15 e2
        go_wp2_with (go_at_call 83; first | ((with_reducible refine (R7.out _).mono ?_); rintro e w' ⟨rfl, rfl⟩) | ((with_reducible refine (R18.out _).mono ?_); rintro e w' ⟨rfl, rfl⟩) | ((with_reducible refine (R17.out _).mono ?_); rintro e w' ⟨rfl, rfl⟩) | ((with_reducible refine (R19.out _).mono ?_); rintro e w' ⟨rfl, rfl⟩))
        clear c15 c2 b15 b2
        obtain ⟨z, hz⟩ : ∃ z, z = Bul.W m (t - 16) := ⟨_, rfl⟩
        obtain ⟨u, hu⟩ : ∃ u, u = Bul.W m (t - 7) := ⟨_, rfl⟩
        obtain ⟨j, hj⟩ : ∃ j, j = t % 16 := ⟨_, rfl⟩
        obtain ⟨j7, hj7⟩ : ∃ j, j = (t - 7) % 16 := ⟨_, rfl⟩
        have e0 : (t : Int).tmod 16 = (j : Int) := by rw [Int.tmod_eq_emod_of_nonneg (by omega)]; omega
        have e7 : (IntKind.i64.wrap (↑t - 7)).tmod 16 = (j7 : Int) := by rw [IntWalk.i64_in _ (by omega), Int.tmod_eq_emod_of_nonneg (by omega)]; omega
        have b0 : (j : Int) < 16 := by omega
        have b7 : (j7 : Int) < 16 := by omega
        have c0 : wr.cell? ⟨w.heap.size + 1, j, none⟩ = some (.int .u32 (z : Nat)) := by
          rw [hW.num (by rw [hw.1]; omega), hj, show t % 16 = (t - 16) % 16 by omega, hw.2 (t - 16) (by omega) (by omega), hz]
        have c7 : wr.cell? ⟨w.heap.size + 1, j7, none⟩ = some (.int .u32 (u : Nat)) := by
          rw [hW.num (by rw [hw.1]; omega), hj7, hw.2 (t - 7) (by omega) (by omega), hu]
        have f0 : wr.frozen? ⟨w.heap.size + 1, j, none⟩ = false := hW.free _
        have H2 := Lib.hid (And.intro hz (And.intro hu (And.intro hj hj7)))
        clear hz hu hj hj7
        have W32 : ∀ a b : Nat, IntKind.u32.wrap (↑a + ↑b) = ((Bul.add32 a b : Nat) : Int) := fun a b => by rw [IntKind.wrap_u32]; simp [Bul.add32]
        refine Go.Bul.wp_region_class_tail (fun w' => w' = Go.World.drew _) 15 (by kernel_rfl) (by kernel_rfl) rfl ?_
        simp only [List.take_succ_cons, List.take_zero, List.drop_succ_cons, List.drop_zero]
        repeat (quiet_step (fail))
        refine wpQuiet_nil ?_
        rintro w' rfl
        go_wp2_with fail
        refine wp_named (fun wb hwb => ?_)
        obtain ⟨hz, hu, hj, hj7⟩ := H2.out
        obtain ⟨hx, hy, hj15, hj2⟩ := H.out
        clear H H2
        have hq : add32 z (add32 (add32 (s0 x) (s1 y)) u) = Bul.W m t := by
          obtain ⟨r, rfl⟩ : ∃ r, t = r + 16 := ⟨t - 16, by omega⟩
          rw [Bul.W_hi, hz, hu, hx, hy]
          simp only [Bul.add32, Nat.add_sub_cancel, show r + 16 - 7 = r + 9 from rfl, show r + 16 - 15 = r + 1 from rfl, show r + 16 - 2 = r + 14 from rfl]
          omega
        rw [hq, hj] at hwb
        have kW : Blk wb (w.heap.size + 1) 148 (cellsOf .u32 (l'.set (t % 16) (Bul.W m t))) := by
          rw [hwb, ← cellsOf_set]
          exact (hW.drewN _).drew.set _ _
        have kh : Blk wb w.heap.size 143 (stc v) := by rw [hwb]; exact (hh.drewN _).drew.far (by dsimp only; omega) _
        have kr : Blk wb (w.heap.size + 1 + 1) 143 cs := by rw [hwb]; exact (hr.drewN _).drew.far (by dsimp only; omega) _
        have kv : Blk wb (w.heap.size + 1 + 1 + 1) 143 (stc (Bul.stAt m v t)) := by rw [hwb]; exact (hv'.drewN _).drew.far (by dsimp only; omega) _
        have kold : Below w.heap.size w wb := by rw [hwb]; exact (below_drewN hold _).drew.setCell (by simp) _
        have kw := hw.hi h16
        clear hwb hq W32 E0 E1 R7 R18 R17 R19 e0 e7 b0 b7 c0 c7 f0 hz hu hj hj7 hx hy hj15 hj2 hW hh hr hv' hold hw
        generalize l'.set (t % 16) (Bul.W m t) = l2 at kW kw
        obtain ⟨q, hq⟩ : ∃ q, q = Bul.W m t := ⟨_, rfl⟩
        obtain ⟨s, hs⟩ : ∃ s, s = Bul.stAt m v t := ⟨_, rfl⟩
        obtain ⟨j, hj⟩ : ∃ j, j = t % 16 := ⟨_, rfl⟩
        obtain ⟨k, hk⟩ : ∃ k, k = Bul.K t := ⟨_, rfl⟩
        have hT : Tab wb := HT.out.keep kold
        have hs_ok : s.Ok := by rw [hs]; exact Bul.stAt_ok hv t
        have F : Hid (∀ w' : World, Below wb.heap.size wb w' → w'.cell? ⟨w.heap.size + 1, j, none⟩ = some (.int .u32 (q : Nat)) ∧ w'.cell? ⟨1, t, none⟩ = some (.int .u32 (k : Nat)) ∧
            (∀ i, w'.cell? ⟨w.heap.size + 1 + 1 + 1, i, none⟩ = (stc s)[i]?)) := fun w' hb => by
          refine ⟨?_, ?_, fun i => ?_⟩
          · rw [(kW.kept hb).num (by rw [kw.1]; omega), hj, kw.2 t (by omega) (by omega), hq]
          · rw [(hT.keep hb) t hlt, hk]
          · rw [(kv.kept hb).cell i, hs]
        have e0 : (t : Int).tmod 16 = (j : Int) := by rw [Int.tmod_eq_emod_of_nonneg (by omega)]; omega
        have b0 : (j : Int) < 16 := by omega
        have bt : (t : Int) < 64 := by omega
        have H := Lib.hid (And.intro hq (And.intro hs (And.intro hj hk)))
        clear hq hs hj hk
        refine Go.Bul.wp_region_class_tail (fun w' => Below wb.heap.size wb w') 9 (by kernel_rfl) (by kernel_rfl) (Below.drew (Below.refl _ _)) ?_
        simp only [List.take_succ_cons, List.take_zero, List.drop_succ_cons, List.drop_zero]
        refine wpQuiet_step (fun K hK => ?_)
        refine Go.Bul.quiet_plain rfl (stv s) (fun w' hw' => ?_) ?_
        · obtain ⟨f1, f2, f3⟩ := F.out w' hw'
          have f4 := f3 0
          have f5 := f3 1
          have f6 := f3 2
          have f7 := f3 3
          have f8 := f3 4
          have f9 := f3 5
          have f10 := f3 6
          have f11 := f3 7
          clear f3
          simp only [stc_eq] at f4 f5 f6 f7 f8 f9 f10 f11
          go_simp
          rfl
        go_simp
        refine hK _ ?_
        clear hK K
        refine wpQuiet_step (fun K hK => ?_)
        refine Go.Bul.quiet_some rfl ?_
        apply Exists.intro
        refine ⟨fun w' hw' => ?_, ?_⟩
        · skip
          go_simp
          rfl
        go_simp
        refine hK _ ?_
        clear hK K
        refine wpQuiet_step (fun K hK => ?_)
        refine Go.Bul.quiet_some rfl ?_
        apply Exists.intro
        refine ⟨fun w' hw' => ?_, ?_⟩
        · skip
          go_simp
          rfl
        go_simp
        refine hK _ ?_
        clear hK K
        refine wpQuiet_step (fun K hK => ?_)
        refine Go.Bul.quiet_some rfl ?_
        apply Exists.intro
        refine ⟨fun w' hw' => ?_, ?_⟩
        · obtain ⟨f1, f2, f3⟩ := F.out w' hw'; clear f3
          go_simp
          rfl
        go_simp
        refine hK _ ?_
        clear hK K
        refine wpQuiet_step (fun K hK => ?_)
        refine Go.Bul.quiet_some rfl ?_
        apply Exists.intro
        refine ⟨fun w' hw' => ?_, ?_⟩
        · skip
          go_simp
          rfl
        go_simp
        refine hK _ ?_
        clear hK K
        refine wpQuiet_step (fun K hK => ?_)
        refine Go.Bul.quiet_some rfl ?_
        apply Exists.intro
        refine ⟨fun w' hw' => ?_, ?_⟩
        · skip
          go_simp
          rfl
        go_simp
        refine hK _ ?_
        clear hK K
        refine wpQuiet_step (fun K hK => ?_)
        refine Go.Bul.quiet_some rfl ?_
        apply Exists.intro
        refine ⟨fun w' hw' => ?_, ?_⟩
        · skip
          go_simp
          rfl
        go_simp
        refine hK _ ?_
        clear hK K
        refine wpQuiet_step (fun K hK => ?_)
        refine Go.Bul.quiet_some rfl ?_
        apply Exists.intro
        refine ⟨fun w' hw' => ?_, ?_⟩
        · obtain ⟨f1, f2, f3⟩ := F.out w' hw'; clear f3
          go_simp
          rfl
        go_simp
        refine hK _ ?_
        clear hK K
        refine wpQuiet_step (fun K hK => ?_)
        refine Go.Bul.quiet_some rfl ?_
        apply Exists.intro
        refine ⟨fun w' hw' => ?_, ?_⟩
        · go_simp
          exact Go.Bul.quiet_call hw' (round_any s k q w' hs_ok)
        go_simp
        refine hK _ ?_
        clear hK K
        refine wpQuiet_nil ?_
        intro w2 hb2
        obtain ⟨hq, hs, hj, hk⟩ := H.out
        have hv2 : stv (Bul.rnd s k q) = stv (Bul.stAt m v (t + 1)) := by rw [hs, hk, hq]; rfl
        rw [hv2]
        clear hv2
        obtain ⟨s2, hs2⟩ : ∃ s2, s2 = Bul.stAt m v (t + 1) := ⟨_, rfl⟩
        rw [← hs2]
        have kv2 := kv.kept hb2
        have g0 : ∀ i, w2.frozen? ⟨w.heap.size + 1 + 1 + 1, i, none⟩ = false := fun i => kv2.free i
        have g1 : ∀ i, w2.cell? ⟨w.heap.size + 1 + 1 + 1, i, none⟩ = (stc (Bul.stAt m v t))[i]? := fun i => kv2.cell i
        simp only [stc_eq] at g1
        rw [stv_eq s2]
        have H3 := Lib.hid hs2
        clear hs2 hq hs hj hk e0 b0 bt
        go_wp2_with fail
        refine ⟨⟨t + 1, by omega, by go_num, ?_⟩, by simp [intOf]; omega⟩
        exact ⟨set8_far s2 (kh.kept hb2) (by omega), ⟨l2, kw, set8_far s2 (kW.kept hb2) (by omega)⟩, ⟨cs, hcs, set8_far s2 (kr.kept hb2) (by omega)⟩, by rw [← H3.out]; exact set8_blk s2 kv2 rfl, set8_below s2 (kold.trans (hb2.mono kold.size)) (by omega)⟩
      · go_wp2_with fail
        refine wp_named (fun wb hwb => ?_)
        have kw := hw.lo (by omega)
        subst hwb
        have kh := hh
        have kr := hr
        have kv := hv'
        have kold := hold
        have kW := hW
        clear hh hr hv' hold hW hw
        generalize l' = l2 at kW kw
        obtain ⟨q, hq⟩ : ∃ q, q = Bul.W m t := ⟨_, rfl⟩
        obtain ⟨s, hs⟩ : ∃ s, s = Bul.stAt m v t := ⟨_, rfl⟩
        obtain ⟨j, hj⟩ : ∃ j, j = t % 16 := ⟨_, rfl⟩
        obtain ⟨k, hk⟩ : ∃ k, k = Bul.K t := ⟨_, rfl⟩
        have hT : Tab wb := HT.out.keep kold
        have hs_ok : s.Ok := by rw [hs]; exact Bul.stAt_ok hv t
        have F : Hid (∀ w' : World, Below wb.heap.size wb w' → w'.cell? ⟨w.heap.size + 1, j, none⟩ = some (.int .u32 (q : Nat)) ∧ w'.cell? ⟨1, t, none⟩ = some (.int .u32 (k : Nat)) ∧
            (∀ i, w'.cell? ⟨w.heap.size + 1 + 1 + 1, i, none⟩ = (stc s)[i]?)) := fun w' hb => by
          refine ⟨?_, ?_, fun i => ?_⟩
          · rw [(kW.kept hb).num (by rw [kw.1]; omega), hj, kw.2 t (by omega) (by omega), hq]
          · rw [(hT.keep hb) t hlt, hk]
          · rw [(kv.kept hb).cell i, hs]
        have e0 : (t : Int).tmod 16 = (j : Int) := by rw [Int.tmod_eq_emod_of_nonneg (by omega)]; omega
        have b0 : (j : Int) < 16 := by omega
        have bt : (t : Int) < 64 := by omega
        have H := Lib.hid (And.intro hq (And.intro hs (And.intro hj hk)))
        clear hq hs hj hk
        refine Go.Bul.wp_region_class_tail (fun w' => Below wb.heap.size wb w') 9 (by kernel_rfl) (by kernel_rfl) (Below.drew (Below.refl _ _)) ?_
        simp only [List.take_succ_cons, List.take_zero, List.drop_succ_cons, List.drop_zero]
        refine wpQuiet_step (fun K hK => ?_)
        refine Go.Bul.quiet_plain rfl (stv s) (fun w' hw' => ?_) ?_
        · obtain ⟨f1, f2, f3⟩ := F.out w' hw'
          have f4 := f3 0
          have f5 := f3 1
          have f6 := f3 2
          have f7 := f3 3
          have f8 := f3 4
          have f9 := f3 5
          have f10 := f3 6
          have f11 := f3 7
          clear f3
          simp only [stc_eq] at f4 f5 f6 f7 f8 f9 f10 f11
          go_simp
          rfl
        go_simp
        refine hK _ ?_
        clear hK K
        refine wpQuiet_step (fun K hK => ?_)
        refine Go.Bul.quiet_some rfl ?_
        apply Exists.intro
        refine ⟨fun w' hw' => ?_, ?_⟩
        · skip
          go_simp
          rfl
        go_simp
        refine hK _ ?_
        clear hK K
        refine wpQuiet_step (fun K hK => ?_)
        refine Go.Bul.quiet_some rfl ?_
        apply Exists.intro
        refine ⟨fun w' hw' => ?_, ?_⟩
        · skip
          go_simp
          rfl
        go_simp
        refine hK _ ?_
        clear hK K
        refine wpQuiet_step (fun K hK => ?_)
        refine Go.Bul.quiet_some rfl ?_
        apply Exists.intro
        refine ⟨fun w' hw' => ?_, ?_⟩
        · obtain ⟨f1, f2, f3⟩ := F.out w' hw'; clear f3
          go_simp
          rfl
        go_simp
        refine hK _ ?_
        clear hK K
        refine wpQuiet_step (fun K hK => ?_)
        refine Go.Bul.quiet_some rfl ?_
        apply Exists.intro
        refine ⟨fun w' hw' => ?_, ?_⟩
        · skip
          go_simp
          rfl
        go_simp
        refine hK _ ?_
        clear hK K
        refine wpQuiet_step (fun K hK => ?_)
        refine Go.Bul.quiet_some rfl ?_
        apply Exists.intro
        refine ⟨fun w' hw' => ?_, ?_⟩
        · skip
          go_simp
          rfl
        go_simp
        refine hK _ ?_
        clear hK K
        refine wpQuiet_step (fun K hK => ?_)
        refine Go.Bul.quiet_some rfl ?_
        apply Exists.intro
        refine ⟨fun w' hw' => ?_, ?_⟩
        · skip
          go_simp
          rfl
        go_simp
        refine hK _ ?_
        clear hK K
        refine wpQuiet_step (fun K hK => ?_)
        refine Go.Bul.quiet_some rfl ?_
        apply Exists.intro
        refine ⟨fun w' hw' => ?_, ?_⟩
        · obtain ⟨f1, f2, f3⟩ := F.out w' hw'; clear f3
          go_simp
          rfl
        go_simp
        refine hK _ ?_
        clear hK K
        refine wpQuiet_step (fun K hK => ?_)
        refine Go.Bul.quiet_some rfl ?_
        apply Exists.intro
        refine ⟨fun w' hw' => ?_, ?_⟩
        · go_simp
          exact Go.Bul.quiet_call hw' (round_any s k q w' hs_ok)
        go_simp
        refine hK _ ?_
        clear hK K
        refine wpQuiet_nil ?_
        intro w2 hb2
        obtain ⟨hq, hs, hj, hk⟩ := H.out
        have hv2 : stv (Bul.rnd s k q) = stv (Bul.stAt m v (t + 1)) := by rw [hs, hk, hq]; rfl
        rw [hv2]
        clear hv2
        obtain ⟨s2, hs2⟩ : ∃ s2, s2 = Bul.stAt m v (t + 1) := ⟨_, rfl⟩
        rw [← hs2]
        have kv2 := kv.kept hb2
        have g0 : ∀ i, w2.frozen? ⟨w.heap.size + 1 + 1 + 1, i, none⟩ = false := fun i => kv2.free i
        have g1 : ∀ i, w2.cell? ⟨w.heap.size + 1 + 1 + 1, i, none⟩ = (stc (Bul.stAt m v t))[i]? := fun i => kv2.cell i
        simp only [stc_eq] at g1
        rw [stv_eq s2]
        have H3 := Lib.hid hs2
        clear hs2 hq hs hj hk e0 b0 bt
        go_wp2_with fail
        refine ⟨⟨t + 1, by omega, by go_num, ?_⟩, by simp [intOf]; omega⟩
        exact ⟨set8_far s2 (kh.kept hb2) (by omega), ⟨l2, kw, set8_far s2 (kW.kept hb2) (by omega)⟩, ⟨cs, hcs, set8_far s2 (kr.kept hb2) (by omega)⟩, by rw [← H3.out]; exact set8_blk s2 kv2 rfl, set8_below s2 (kold.trans (hb2.mono kold.size)) (by omega)⟩
    · obtain rfl : t = 64 := by omega
      obtain ⟨s, hs⟩ : ∃ s, s = Bul.stAt m v 64 := ⟨_, rfl⟩
      rw [← hs] at hv'
      have c0 : ∀ i, wr.cell? ⟨w.heap.size, i, none⟩ = (stc v)[i]? := fun i => hh.cell i
      have c3 : ∀ i, wr.cell? ⟨w.heap.size + 1 + 1 + 1, i, none⟩ = (stc s)[i]? := fun i => hv'.cell i
      simp only [stc_eq] at c0 c3
      have P := Lib.hid (plus_any v s)
      have hP : Hid (Bul.plus v s = Bul.compress v m) := by rw [hs]; rfl
      rw [stv_eq v, stv_eq s, hP.out, stv_eq (Bul.compress v m)] at P
      have kold := hold
      have hsz : w.heap.size + 1 + 1 < wr.heap.size := hr.lt
      clear hs
      go_wp2_with fail
      with_reducible refine (P.out _).mono ?_
      rintro e w2 ⟨rfl, hb2⟩
      have k2 := hr.kept hb2
      have f2 : ∀ i, w2.frozen? ⟨w.heap.size + 1 + 1, i, none⟩ = false := fun i => k2.free i
      have g2 : ∀ i, i < 8 → ∃ u, w2.cell? ⟨w.heap.size + 1 + 1, i, none⟩ = some u := fun i hi => by
        rw [k2.cell i]
        exact ⟨cs[i]'(by omega), by simp [hcs, hi]⟩
      obtain ⟨u0, c20⟩ := g2 0 (by omega)
      obtain ⟨u1, c21⟩ := g2 1 (by omega)
      obtain ⟨u2, c22⟩ := g2 2 (by omega)
      obtain ⟨u3, c23⟩ := g2 3 (by omega)
      obtain ⟨u4, c24⟩ := g2 4 (by omega)
      obtain ⟨u5, c25⟩ := g2 5 (by omega)
      obtain ⟨u6', c26⟩ := g2 6 (by omega)
      obtain ⟨u7', c27⟩ := g2 7 (by omega)
      clear g2
      go_wp2_with fail
      exact bodyPost_ret (results_cell_row rfl _ _ (w.heap.size + 1 + 1) _ _ _ _ rfl (set8_blk (Bul.compress v m) k2 hcs) Tryd.underlying143 rfl (by kernel_rfl)) rfl
        ⟨rfl, set8_below (Bul.compress v m) (kold.trans (hb2.mono kold.size)) (by omega)⟩
end Go.Proofs.YtbbdnlcjjcmllaaDoor
namespace Go.Bul
open Go Go.RowKit
section
variable {P : Program} {w : World} {ops : Array Oper} {rest : List Oper} {o : Oper} {a : Act} {Q : Exit → Act → World → Prop}

def isRow : TypeDesc → Bool
  | .struct _ | .array _ _ => true
  | _ => false

theorem run_isAgg {ty : TypeId} {d : TypeDesc} (hu : P.underlying ty = some d) (hd : isRow d = true) (w : World) : (isAgg ty).run P w = .ok true w := by
  unfold isAgg
  rw [Sem.run_bind, run_underlying hu w]
  cases d <;> simp_all [isRow]
theorem run_isAgg_no {ty : TypeId} {d : TypeDesc} (hu : P.underlying ty = some d) (hd : isRow d = false) (w : World) : (isAgg ty).run P w = .ok false w := by
  unfold isAgg
  rw [Sem.run_bind, run_underlying hu w]
  cases d <;> simp_all [isRow]
theorem run_sizeOf {ty : TypeId} {n : Nat} (hi : (P.info? ty).map (·.size) = some n) (w : World) : (sizeOf ty).run P w = .ok n w := by
  cases hq : P.info? ty with
  | none => simp [hq] at hi
  | some i =>
    have : i.size = n := by simpa [hq] using hi
    simp [sizeOf, typeInfo, hq, this]
theorem addr_at (g o j : Nat) : (⟨g, o, none⟩ : Addr).add j = ⟨g, o + j, none⟩ := by
  unfold Addr.add
  split
  · rename_i h; subst h; rfl
  · rfl

/-- A struct or an array, read out of a block from a place on. -/
theorem run_load_part (w : World) (g off : Nat) (t ty : TypeId) (cs : Array Value) (n : Nat) (d : TypeDesc) (hg : Blk w g t cs) (hu : P.underlying ty = some d) (hd : isRow d = true)
    (hi : (P.info? ty).map (·.size) = some n) (hn : off + n ≤ cs.size) : (loadVar ty ⟨g, off, none⟩).run P w = .ok (.agg (cs.extract off (off + n))) w := by
  have hl : (loadCells ⟨g, off, none⟩ (cs.extract off (off + n)).toList.length).run P w = .ok (cs.extract off (off + n)).toList.toArray w :=
    run_loadCells_list (P := P) w ⟨g, off, none⟩ (cs.extract off (off + n)).toList (fun j v hv => by
      rw [addr_at, hg.cell]
      simp only [Array.getElem?_toList] at hv
      rw [Array.getElem?_extract] at hv
      split at hv
      · exact hv
      · cases hv)
  have hlen : (cs.extract off (off + n)).toList.length = n := by simp; omega
  rw [hlen] at hl
  simp only [Array.toArray_toList] at hl
  simp [loadVar, Sem.run_bind, run_isAgg hu hd, run_sizeOf hi, hl]

theorem wpList_load_part (hgd : o.guard = none) (ty : TypeId) (x : Operand) (ho : o.op = .load ty x) (g off : Nat) (hx : a.eval x = .pointer (some ⟨g, off, none⟩))
    (t : TypeId) (cs : Array Value) (n : Nat) (d : TypeDesc) (hg : Blk w g t cs) (hu : P.underlying ty = some d) (hd : isRow d = true)
    (hi : (P.info? ty).map (·.size) = some n) (hn : off + n ≤ cs.size) (X : Array Value) (hX : cs.extract off (off + n) = X)
    (h : wpList P ops Q rest (a.put o.dst (.agg X)) w) : wpList P ops Q (o :: rest) a w :=
  wpList_plain hgd fun K hK => by
    unfold Oper.wp execOp
    simp only [ho, hx, Instr.loadAt, Instr.sureAddr, Sem.run_bind, Sem.run_pure, Result.andThen_ok, run_load_part w g off t ty cs n d hg hu hd hi hn, hX]
    exact hK _ _ h
/-- .. the whole block. -/
theorem wpList_load_blk (hgd : o.guard = none) (ty : TypeId) (x : Operand) (ho : o.op = .load ty x) (g : Nat) (hx : a.eval x = .pointer (some ⟨g, 0, none⟩))
    (t : TypeId) (cs : Array Value) (n : Nat) (d : TypeDesc) (hg : Blk w g t cs) (hu : P.underlying ty = some d) (hd : isRow d = true)
    (hi : (P.info? ty).map (·.size) = some n) (hn : cs.size = n)
    (h : wpList P ops Q rest (a.put o.dst (.agg cs)) w) : wpList P ops Q (o :: rest) a w :=
  wpList_load_part hgd ty x ho g 0 hx t cs n d hg hu hd hi (by omega) cs (by simp [← hn]) h

theorem Blk.row {g : Nat} {t : TypeId} {cs : Array Value} (h : Blk w g t cs) (X : Array Value) : Blk (w.setRow g X) g t X := setRow_heap w g cs X t (0, 0) h
theorem Blk.rowFar {g g' : Nat} {t : TypeId} {cs : Array Value} (h : Blk w g' t cs) (hne : g' ≠ g) (X : Array Value) : Blk (w.setRow g X) g' t cs := (setRow_other w g g' X hne).trans h

/-- .. in a quiet walk. -/
theorem quietAt_load {C : World → Prop} (ty : TypeId) (x : Operand) (ho : o.op = .load ty x) (g off : Nat) (hx : a.eval x = .pointer (some ⟨g, off, none⟩))
    (t : TypeId) (cs : Array Value) (n : Nat) (d : TypeDesc) (hg : Blk w g t cs) (hu : P.underlying ty = some d) (hd : isRow d = true)
    (hi : (P.info? ty).map (·.size) = some n) (hn : off + n ≤ cs.size) (X : Array Value) (hX : cs.extract off (off + n) = X) : o.quietAt P a C w (.agg X) := by
  unfold Oper.quietAt execOp
  simp only [ho, hx, Instr.loadAt, Instr.sureAddr, Sem.run_bind, Sem.run_pure, Result.andThen_ok, run_load_part w g off t ty cs n d hg hu hd hi hn, hX]
  exact ⟨rfl, rfl⟩

/-- A struct or an array, written into a block from a place on. -/
theorem wpList_store_part (hgd : o.guard = none) (ty : TypeId) (x y : Operand) (ho : o.op = .store ty x y) (g off : Nat) (hx : a.eval x = .pointer (some ⟨g, off, none⟩))
    (vs : Array Value) (hy : a.eval y = .agg vs) (t : TypeId) (cs : Array Value) (n : Nat) (hg : Blk w g t cs)
    (hi : (P.info? ty).map (·.size) = some n) (hv : vs.size = n) (hn : off + n ≤ cs.size) (h1 : ∀ v ∈ vs.toList, v.oneCell' = true)
    (hdst : o.dst = none) (h : ∀ w', w' = w.setRow g (splice cs.toList off vs.toList).toArray → wpList P ops Q rest a w') : wpList P ops Q (o :: rest) a w :=
  wpList_plain hgd fun K hK => by
    have hs := run_storeCells_at P g off t vs.toList 0 cs w hg (by simpa [hv] using hn) h1
    unfold Oper.wp execOp
    simp only [ho, hx, hy, Instr.storeAt, Instr.sureAddr, storeVar, Value.cells, Sem.run_bind, Sem.run_pure, Result.andThen_ok, run_sizeOf hi, hv, ne_eq, not_true_eq_false, if_false, Nat.add_zero] at hs ⊢
    rw [hs]
    simp only [Array.length_toList, Result.andThen_ok]
    show K (a.put o.dst undef) _
    rw [hdst]
    exact hK _ _ (h _ (by simp [splice]))
/-- .. over the whole block. -/
theorem wpList_store_blk (hgd : o.guard = none) (ty : TypeId) (x y : Operand) (ho : o.op = .store ty x y) (g : Nat) (hx : a.eval x = .pointer (some ⟨g, 0, none⟩))
    (vs : Array Value) (hy : a.eval y = .agg vs) (t : TypeId) (cs : Array Value) (n : Nat) (hg : Blk w g t cs)
    (hi : (P.info? ty).map (·.size) = some n) (hv : vs.size = n) (hn : cs.size = n) (h1 : ∀ v ∈ vs.toList, v.oneCell' = true)
    (hdst : o.dst = none) (h : ∀ w', w' = w.setRow g vs → wpList P ops Q rest a w') : wpList P ops Q (o :: rest) a w :=
  wpList_store_part hgd ty x y ho g 0 hx vs hy t cs n hg hi hv (by omega) h1 hdst fun w' hw' => h w' (by
    rw [hw']
    congr 1
    apply Array.ext'
    simp [splice, hv, ← hn])

/-- A new variable of a type whose zero value is known. -/
theorem wpList_alloc_zero (hgd : o.guard = none) (ty : TypeId) (ho : o.op = .alloc ty) (z : Value) (hz : (P.info? ty).map (·.zero) = some (some z))
    (h : wpList P ops Q rest (a.put o.dst (.pointer (some ⟨w.heap.size, 0, none⟩))) (w.alloc (.cells z.cells ty))) : wpList P ops Q (o :: rest) a w :=
  wpList_plain hgd fun K hK => by
    cases hq : P.info? ty with
    | none => simp [hq] at hz
    | some i =>
      have hz' : i.zero = some z := by simpa [hq] using hz
      unfold Oper.wp execOp
      simp only [ho, Instr.alloc, zeroValue, typeInfo, newVar, newRow, newObj, Sem.run_bind, Sem.run_pure, Result.andThen_ok, run_program, hq, hz']
      exact hK _ _ h

/-- copy into a block that is known whole, from memory that reads as cs; the world behind it gets a name. -/
theorem wpList_copy_named (hgd : o.guard = none) (d s : Operand) (dT sT : TypeId)
    (ho : o.op = .call { callee := .builtin .copy, args := #[d, s], argTypes := #[dT, sT] }) (elem : TypeId) (hu : P.underlying dT = some (.slice elem)) (hsz : (P.info? elem).map (·.size) = some 1)
    (g off dLen dCap : Nat) (ad : Addr) (sLen sCap : Nat) (hd : a.eval d = .slice (some ⟨g, off, none⟩) dLen dCap) (hs : a.eval s = .slice (some ad) sLen sCap)
    (cur : Array Value) (t : TypeId) (hg : Blk w g t cur) (cs : List Value) (p : Nat) (hp : cs.length = p) (hn : p = min sLen dLen)
    (hsrc : ∀ j v, cs[j]? = some v → w.cell? (ad.add j) = some v) (hfit : off + p ≤ cur.size) (h1 : ∀ v ∈ cs, v.oneCell' = true)
    (h : ∀ w', w' = w.setRow g (cur.toList.take off ++ (cs ++ cur.toList.drop (off + cs.length))).toArray → wpList P ops Q rest (a.put o.dst (.int .i64 (p : Nat))) w') : wpList P ops Q (o :: rest) a w :=
  wpList_copy_own hgd d s dT sT ho elem hu hsz g off dLen dCap ad sLen sCap hd hs cur t hg cs (hp.trans hn) hsrc (by rw [hp]; exact hfit) h1 (by rw [show goInt cs.length = .int .i64 (p : Nat) by rw [← hp]; rfl]; exact h _ rfl)

/-! ### Equality of arrays -/
theorem run_equalIn_array (w : World) (d : Nat) {t e : TypeId} {n sz : Nat} (xs ys : Array Value) (f : Nat → Bool) (ht : P.underlying t = some (.array n e)) (hs : (P.info? e).map (·.size) = some sz)
    (hf : ∀ i, i < n → (do let a ← part e xs (i * sz); let b ← part e ys (i * sz); Op.equalIn d e a b : Sem Bool).run P w = .ok (f i) w) :
    (Op.equalIn (d + 1) t (.agg xs) (.agg ys)).run P w = .ok ((List.range n).all f) w := by
  simp only [Op.equalIn, Sem.run_bind, run_underlying ht, Result.andThen_ok, run_sizeOf hs]
  rw [Std.Legacy.Range.forIn_eq_forIn_range']
  simp only [Std.Legacy.Range.size, Nat.sub_zero, Nat.add_sub_cancel, Nat.div_one]
  rw [List.range_eq_range']
  have key : ∀ (m k : Nat), k + m ≤ n → (forIn (List.range' k m) ((none, ()) : Option Bool × Unit) (fun i _ => do
        let a ← part e xs (i * sz)
        let b ← part e ys (i * sz)
        let r ← Op.equalIn d e a b
        if (!r) = true then pure (ForInStep.done (some false, ())) else pure (ForInStep.yield (none, ()))) : Sem (Option Bool × Unit)).run P w =
      .ok (if (List.range' k m).all f then (none, ()) else (some false, ())) w := by
    intro m
    induction m with
    | zero => intro k _; simp
    | succ m ih =>
      intro k hk
      have h1 := hf k (by omega)
      simp only [Sem.run_bind] at h1
      simp only [List.range'_succ, List.forIn_cons, Sem.run_bind, List.all_cons]
      generalize (part e xs (k * sz)).run P w = r1 at h1 ⊢
      cases r1 with
      | halt x w1 => simp [Result.andThen] at h1
      | ok a w1 =>
        simp only [Result.andThen_ok] at h1 ⊢
        generalize (part e ys (k * sz)).run P w1 = r2 at h1 ⊢
        cases r2 with
        | halt x w2 => simp [Result.andThen] at h1
        | ok b w2 =>
          simp only [Result.andThen_ok] at h1 ⊢
          rw [h1]
          simp only [Result.andThen_ok]
          cases hfk : f k
          · simp [Sem.run_pure]
          · simp only [Bool.not_true, Bool.false_eq_true, if_false, Sem.run_pure, Result.andThen_ok, Bool.true_and]
            exact ih (k + 1) (by omega)
  rw [key n 0 (by omega)]
  cases h : (List.range' 0 n).all f <;> simp
theorem run_part_num (w : World) {e : TypeId} {dd : TypeDesc} (hE : P.underlying e = some dd) (hd : isRow dd = false) (k : IntKind) (l : List Nat) (i : Nat) (hi : i < l.length) :
    (part e (cellsOf k l) (i * 1)).run P w = .ok (.int k (l.getD i 0 : Nat)) w := by
  have hg := cellsOf_get k l i hi
  simp [part, Sem.run_bind, run_isAgg_no hE hd, hg]
theorem all_getD (l m : List Nat) (h : l.length = m.length) : ((List.range l.length).all fun i => ((l.getD i 0 : Nat) : Int) == ((m.getD i 0 : Nat) : Int)) = (l == m) := by
  rw [Bool.eq_iff_iff]
  simp only [List.all_eq_true, List.mem_range, beq_iff_eq, Int.ofNat_inj]
  constructor
  · intro hh
    apply List.ext_getElem h
    intro i h1 h2
    have := hh i h1
    simpa [h1, h2] using this
  · rintro rfl i _
    rfl
/-- Two arrays of numbers. -/
theorem run_equalIn_nums (w : World) (d : Nat) {t e : TypeId} {n : Nat} {k : IntKind} (l m : List Nat) (ht : P.underlying t = some (.array n e)) (he : P.underlying e = some (.int k))
    (hs : (P.info? e).map (·.size) = some 1) (hl : l.length = n) (hm : m.length = n) :
    (Op.equalIn (d + 2) t (.agg (cellsOf k l)) (.agg (cellsOf k m))).run P w = .ok (l == m) w := by
  rw [run_equalIn_array w (d + 1) (cellsOf k l) (cellsOf k m) (fun i => ((l.getD i 0 : Nat) : Int) == ((m.getD i 0 : Nat) : Int)) ht hs]
  · rw [← all_getD l m (by omega), hl]
  · intro i hi
    simp only [Sem.run_bind, run_part_num w he rfl k l i (by omega), run_part_num w he rfl k m i (by omega), Result.andThen_ok, run_equalIn_int w d e k k _ _ he]
end
end Go.Bul
