/- Drawn regions over the heap predicate: loads first, the rest in its order; what a call made beside all else. Texts out of bytes; hexadecimal. No program. Types of trees: sizes, zero values; nodes. The laws of the walk. Rows of bytes; append, parts. Contracts of slices.Grow at a nil slice of bytes, of slices.Concat at slices of bytes. -/
import Derived.Test.YtdnnjgjaffkdfaaDoorVl
import Derived.Test.YtdnnjgjaffkdfaaDoorVa
import Derived.Laws.BytesArg
import Derived.Laws.Strings
import Derived.Laws.StructEq
import Derived.Test.YtdnnjgjaffkdfaaDoorProg
import Derived.Tactics2
import Derived.WalkSpells
import Derived.WalkKit
import Derived.LoopTactic
import Derived.Lib.SliceRun
import Derived.Lib.Hide
import Derived.Lib.AppendZerosOnto
import Derived.Lib.Walk
namespace Go.Thg
open Go Go.RowKit Go.Bul
section
variable {P : Program} {w w0 w' : World} {G : List Nat} {L L' : List Ent} {R R' : List Thing} {Q : Exit → Act → World → Prop}
/-- What was made beside all that was known. -/
theorem Mem.frame (h : Mem G w0 L R w) (k : Mem [] w L' R' w') : Mem G w0 (L' ++ L) (R' ++ R) w' := by
  have h1 := h.step k.below
  have hge : ∀ g ∈ foot L' R', w.heap.size ≤ g := fun g hg => by simpa using k.own g hg
  have hp : (foot (L' ++ L) (R' ++ R)).Perm (foot L' R' ++ foot L R) := by
    simp only [foot, List.map_append, List.flatMap_append, List.append_assoc]
    refine List.Perm.append_left _ ?_
    rw [← List.append_assoc, ← List.append_assoc]
    exact List.Perm.append_right _ List.perm_append_comm
  refine ⟨h1.old, ?_, ?_, ?_, ?_⟩
  · intro b hb
    rcases List.mem_append.1 hb with hb | hb
    · exact k.blk_ b hb
    · exact h1.blk_ b hb
  · intro r hr
    rcases List.mem_append.1 hr with hr | hr
    · exact k.thing r hr
    · exact h1.thing r hr
  · intro g hg
    rcases List.mem_append.1 (hp.mem_iff.1 hg) with hg | hg
    · exact .inl (Nat.le_trans h.le (hge g hg))
    · exact h.own g hg
  · refine hp.nodup_iff.2 (List.nodup_append.2 ⟨k.sep, h.sep, fun g hg j hj => ?_⟩)
    have := hge g hg
    have := h.lt hj
    omega
end
end Go.Thg
namespace Go.Bul
open Go
/-- the text of bytes -/
def bstr (l : List Nat) : ByteArray := ⟨(l.map UInt8.ofNat).toArray⟩
theorem bstr_size (l : List Nat) : (bstr l).size = l.length := by simp [bstr, ByteArray.size]
theorem bstr_nums (l : List Nat) : strOfNums (l.map fun (n : Nat) => (n : Int)) = bstr l := by
  simp [strOfNums, bstr]
theorem ofNat_inj {a b : Nat} (ha : a < 256) (hb : b < 256) (h : UInt8.ofNat a = UInt8.ofNat b) : a = b := by
  have := congrArg UInt8.toNat h
  simp [UInt8.toNat_ofNat'] at this
  omega
end Go.Bul
namespace Go.Thg
open Go Go.RowKit Go.Bul
theorem wpList_mem_set_to {P : Program} {w w0 : World} {G : List Nat} {L : List Ent} {R : List Thing} {ops : Array Oper} {rest : List Oper} {o : Oper} {a : Act} {Q : Exit → Act → World → Prop}
    (hM : Mem G w0 L R w) (hgd : o.guard = none) (ty : TypeId) (x y : Operand) (ho : o.op = .store ty x y) (g i : Nat) (hx : a.eval x = .pointer (some ⟨g, i, none⟩))
    (v : Value) (hy : a.eval y = v) (t : TypeId) (n : Nat) (cs : Array Value) (F : Array Value → List Ent) (hL : UpdL g t n cs L F) (hty : OneTy P ty) (hi : i < n) (h1 : v.oneCell' = true)
    (hdst : o.dst = none) (X : Array Value) (hX : cs.setIfInBounds i v = X) (h : ∀ w', Mem G w0 (F X) R w' → wpList P ops Q rest a w') : wpList P ops Q (o :: rest) a w := by
  subst hX
  exact wpList_mem_set hM hgd ty x y ho g i hx v hy t n cs F hL hty hi h1 hdst h
/-- What a slice reads as: n elements of so many cells. -/
def Reads (w : World) (size : Nat) (A : Option Addr) (n : Nat) (xs : List Value) : Prop :=
  xs.length = n * size ∧ (0 < n → ∃ g off, A = some ⟨g, off, none⟩ ∧ g < w.heap.size ∧ ∀ j u, xs[j]? = some u → w.cell? ⟨g, off + j, none⟩ = some u)
theorem Reads.keep {w w' : World} {size : Nat} {A : Option Addr} {n : Nat} {xs : List Value} (h : Reads w size A n xs) (hb : Below w.heap.size w w') : Reads w' size A n xs :=
  ⟨h.1, fun hn => by
    obtain ⟨g, off, h1, h2, h3⟩ := h.2 hn
    exact ⟨g, off, h1, Nat.lt_of_lt_of_le h2 hb.size, fun j u hu => (hb.cell (p := ⟨g, off + j, none⟩) h2).trans (h3 j u hu)⟩⟩
theorem OffRow.reads {w : World} {e : TypeId} {size : Nat} {A : Option Addr} {n c : Nat} {xs : List Value} (h : OffRow w e size (.slice A n c) n xs) : Reads w size A n xs :=
  ⟨h.1, fun hn => by
    obtain ⟨g, off, h1, h2, h3, _⟩ := h.cells hn
    exact ⟨g, off, h1, h2, h3⟩⟩
theorem Reads.nil (w : World) (size : Nat) (A : Option Addr) : Reads w size A 0 [] := ⟨by simp, fun h => by omega⟩
theorem Reads.src {P : Program} {w : World} {size : Nat} {A : Option Addr} {n c : Nat} {xs : List Value} {tx e' : TypeId} (h : Reads w size A n xs) (hk : P.underlying tx = some (.slice e')) (h1 : ∀ u ∈ xs, u.oneCell' = true) : Src P size tx (.slice A n c) n xs w := by
  rcases Nat.eq_zero_or_pos n with hn | hn
  · subst hn
    have hx : xs = [] := List.eq_nil_of_length_eq_zero (by simpa using h.1)
    subst hx
    cases A with
    | none => exact Src.ofNil w hk c
    | some a => exact Src.ofSlice w hk a 0 c [] (by simp) (by simp) h1
  · obtain ⟨g, off, rfl, _, h2⟩ := h.2 hn
    exact Src.ofSlice w hk _ n c xs h.1 (fun j u hu => by rw [addr_at]; exact h2 j u hu) h1
/-- A cell that is known, wherever. -/
theorem run_one_load {P : Program} {w : World} {ty : TypeId} (hty : OneTy P ty) {g off : Nat} {v : Value} (hc : w.cell? ⟨g, off, none⟩ = some v) : (loadVar ty ⟨g, off, none⟩).run P w = .ok v w := by
  obtain ⟨d, hu, hd, _⟩ := hty.ex
  simp [loadVar, Sem.run_bind, run_isAgg_no hu hd, hc]
theorem wpList_one_load {P : Program} {w : World} {ops : Array Oper} {rest : List Oper} {o : Oper} {a : Act} {Q : Exit → Act → World → Prop} (hgd : o.guard = none) (ty : TypeId) (x : Operand) (ho : o.op = .load ty x) (g off : Nat) (hx : a.eval x = .pointer (some ⟨g, off, none⟩))
    (hty : OneTy P ty) (v : Value) (hc : w.cell? ⟨g, off, none⟩ = some v) (h : wpList P ops Q rest (a.put o.dst v) w) : wpList P ops Q (o :: rest) a w :=
  wpList_plain hgd fun K hK => by
    unfold Oper.wp execOp
    simp only [ho, hx, Instr.loadAt, Instr.sureAddr, Sem.run_bind, Sem.run_pure, Result.andThen_ok, run_one_load hty hc]
    exact hK _ _ h
theorem quietAt_one {P : Program} {C : World → Prop} {w : World} {o : Oper} {a : Act} (ty : TypeId) (x : Operand) (ho : o.op = .load ty x) (g off : Nat) (hx : a.eval x = .pointer (some ⟨g, off, none⟩)) (hty : OneTy P ty) (v : Value) (hc : w.cell? ⟨g, off, none⟩ = some v) :
    o.quietAt P a C w v := by
  unfold Oper.quietAt execOp
  simp only [ho, hx, Instr.loadAt, Instr.sureAddr, Sem.run_bind, Sem.run_pure, Result.andThen_ok, run_one_load hty hc]
  exact ⟨rfl, rfl⟩
/-- A struct read through a slice: one of its elements. -/
theorem wpList_reads_load {P : Program} {w : World} {ops : Array Oper} {rest : List Oper} {o : Oper} {a : Act} {Q : Exit → Act → World → Prop} (hgd : o.guard = none) (ty : TypeId) (x : Operand) (ho : o.op = .load ty x) (g off : Nat) (hx : a.eval x = .pointer (some ⟨g, off, none⟩))
    (m : Nat) (hty : RowTy P ty m) (X : Array Value) (hm : X.size = m) (hX : ∀ j u, X[j]? = some u → w.cell? ⟨g, off + j, none⟩ = some u) (h : wpList P ops Q rest (a.put o.dst (.agg X)) w) : wpList P ops Q (o :: rest) a w := by
  obtain ⟨d, hu, hd, hi⟩ := hty.ex
  refine wpList_plain hgd fun K hK => ?_
  have hl : (loadCells ⟨g, off, none⟩ X.toList.length).run P w = .ok X.toList.toArray w :=
    run_loadCells_list (P := P) w ⟨g, off, none⟩ X.toList (fun j u hu => by rw [addr_at]; exact hX j u (by simpa using hu))
  rw [Array.length_toList, hm] at hl
  simp only [Array.toArray_toList] at hl
  have hrun : (loadVar ty ⟨g, off, none⟩).run P w = .ok (.agg X) w := by simp [loadVar, Sem.run_bind, run_isAgg hu hd, Go.Bul.run_sizeOf hi, hl]
  unfold Oper.wp execOp
  simp only [ho, hx, Instr.loadAt, Instr.sureAddr, Sem.run_bind, Sem.run_pure, Result.andThen_ok, hrun]
  exact hK _ _ h
end Go.Thg
namespace Go.Lin
open Go Go.Bul
/-- A node: 16 bytes. -/
structure Nd where
  val : List Nat
  len : val.length = 16
  byt : Bytes val
theorem Nd.ext' {a b : Nd} (h : a.val = b.val) : a = b := by
  obtain ⟨x, _, _⟩ := a
  obtain ⟨y, _, _⟩ := b
  subst h
  rfl
instance : DecidableEq Nd := fun a b => if h : a.val = b.val then .isTrue (Nd.ext' h) else .isFalse fun e => h (by rw [e])
abbrev ndC (x : Nd) : Array Value := cellsOf .u8 x.val
theorem ndC_size (x : Nd) : (ndC x).size = 16 := by rw [cellsOf_size, x.len]
abbrev ndC2 (x y : Nd) : Array Value := cellsOf .u8 (x.val ++ y.val)
theorem ndC2_size (x y : Nd) : (ndC2 x y).size = 32 := by rw [cellsOf_size, List.length_append, x.len, y.len]
def nd0 : Nd := ⟨Go.Thg.zeros 16, rfl, by intro x hx; have := List.eq_of_mem_replicate hx; omega⟩
def halfN (l : List Nat) : Nd := ⟨half l, half_length l, bytes_half l⟩
theorem cellsOf_one (k : IntKind) (l : List Nat) : ∀ u ∈ (cellsOf k l).toList, u.oneCell' = true := fun u hu => vals_one k l u (by simpa [cellsOf] using hu)
end Go.Lin
namespace Go.Proofs.YtdnnjgjaffkdfaaDoor
open Go Go.RowKit Go.Bul Go.Thg Go.Lin
theorem row_nd : RowTy Tryd.prog 89 16 := ⟨⟨_, Tryd.underlying89, rfl, by kernel_rfl⟩⟩
theorem row_n : RowTy Tryd.prog 95 16 := ⟨⟨_, Tryd.underlying95, rfl, by kernel_rfl⟩⟩
theorem row_half : RowTy Tryd.prog 99 16 := ⟨⟨_, Tryd.underlying99, rfl, by kernel_rfl⟩⟩
theorem row_a32 : RowTy Tryd.prog 44 32 := ⟨⟨_, Tryd.underlying44, rfl, by kernel_rfl⟩⟩
theorem row_nd2 : RowTy Tryd.prog 131 32 := ⟨⟨_, Tryd.underlying131, rfl, by kernel_rfl⟩⟩
theorem one_int : OneTy Tryd.prog 3 := ⟨⟨_, Tryd.underlying3, rfl, by kernel_rfl⟩⟩
theorem one_bool : OneTy Tryd.prog 4 := ⟨⟨_, Tryd.underlying4, rfl, by kernel_rfl⟩⟩
theorem one_u8 : OneTy Tryd.prog 5 := ⟨⟨_, Tryd.underlying5, rfl, by kernel_rfl⟩⟩
theorem one_bytes : OneTy Tryd.prog 78 := ⟨⟨_, Tryd.underlying78, rfl, by kernel_rfl⟩⟩
theorem one_sN : OneTy Tryd.prog 93 := ⟨⟨_, Tryd.underlying93, rfl, by kernel_rfl⟩⟩
theorem one_sRN : OneTy Tryd.prog 104 := ⟨⟨_, Tryd.underlying104, rfl, by kernel_rfl⟩⟩
theorem one_ssN : OneTy Tryd.prog 169 := ⟨⟨_, Tryd.underlying169, rfl, by kernel_rfl⟩⟩
theorem one_errno : OneTy Tryd.prog 33 := ⟨⟨_, Tryd.underlying33, rfl, by kernel_rfl⟩⟩
theorem zero_nd : ZeroTy Tryd.prog 89 16 (ndC nd0) := ⟨⟨.agg _, by kernel_rfl, rfl, by rw [cellsOf_size]; rfl⟩⟩
theorem zero_n : ZeroTy Tryd.prog 95 16 (ndC nd0) := ⟨⟨.agg _, by kernel_rfl, rfl, by rw [cellsOf_size]; rfl⟩⟩
theorem zero_hlf : ZeroTy Tryd.prog 99 16 (ndC nd0) := ⟨⟨.agg _, by kernel_rfl, rfl, by rw [cellsOf_size]; rfl⟩⟩
theorem zero_a32 : ZeroTy Tryd.prog 44 32 (cellsOf .u8 (zeros 32)) := ⟨⟨.agg _, by kernel_rfl, rfl, by rw [cellsOf_size]; rfl⟩⟩
theorem zero_nd2 : ZeroTy Tryd.prog 131 32 (ndC2 nd0 nd0) := ⟨⟨.agg _, by kernel_rfl, rfl, ndC2_size _ _⟩⟩
theorem zero_int : ZeroTy Tryd.prog 3 1 #[.int .i64 0] := ⟨⟨.int .i64 0, by kernel_rfl, rfl, rfl⟩⟩
theorem info_byte : (Tryd.prog.info? 5).map (fun i => (i.zero, i.size, i.bytes)) = some (some (.int .u8 0), 1, 1) := by kernel_rfl
theorem info_nd : (Tryd.prog.info? 89).map (fun i => (i.zero, i.size, i.bytes)) = some (some (.agg (ndC nd0)), 16, 16) := by kernel_rfl
theorem info_n : (Tryd.prog.info? 95).map (fun i => (i.zero, i.size, i.bytes)) = some (some (.agg (ndC nd0)), 16, 16) := by kernel_rfl
section
variable {w w0 : World} {G : List Nat} {L : List Ent} {R : List Thing} {ops : Array Oper} {rest : List Oper} {o : Oper} {a : Act} {Q : Exit → Act → World → Prop} {C : World → Prop} {ty : TypeId} {x y : Operand} {g i m n : Nat} {t : TypeId} {cs vs X : Array Value} {v : Value} {F : Array Value → List Ent}
/-! The laws of the walk, with all their conditions found by themselves. -/
theorem lc (hM : Mem G w0 L R w) (h : wpList Tryd.prog ops Q rest (a.put o.dst v) w) (hgd : o.guard = none := by rfl) (ho : o.op = .load ty x := by rfl) (hx : a.eval x = .pointer (some ⟨g, i, none⟩) := by rfl) (hL : ⟨g, t, n, cs⟩ ∈ L := by repeat (first | exact List.Mem.head _ | apply List.Mem.tail)) (hty : OneTy Tryd.prog ty := by first | exact one_int | exact one_bool | exact one_u8 | exact one_bytes | exact one_sN | exact one_sRN | exact one_ssN | exact one_errno) (hv : cs[i]? = some v := by rfl) : wpList Tryd.prog ops Q (o :: rest) a w :=
  wpList_mem_cell hM hgd ty x ho g i hx t n cs hL hty v hv h
theorem ll (hM : Mem G w0 L R w) (h : wpList Tryd.prog ops Q rest (a.put o.dst (.agg cs)) w) (hgd : o.guard = none := by rfl) (ho : o.op = .load ty x := by rfl) (hx : a.eval x = .pointer (some ⟨g, 0, none⟩) := by rfl) (hL : ⟨g, t, n, cs⟩ ∈ L := by repeat (first | exact List.Mem.head _ | apply List.Mem.tail)) (hty : RowTy Tryd.prog ty n := by first | exact row_nd | exact row_n | exact row_half | exact row_a32 | exact row_nd2 | exact row_n2 | exact row_two | exact row_claim | exact row_bld | exact row_bnds) : wpList Tryd.prog ops Q (o :: rest) a w :=
  wpList_mem_load hM hgd ty x ho g hx t n cs hL hty h
theorem lp (hM : Mem G w0 L R w) (h : wpList Tryd.prog ops Q rest (a.put o.dst (.agg X)) w) (hgd : o.guard = none := by rfl) (ho : o.op = .load ty x := by rfl) (hx : a.eval x = .pointer (some ⟨g, i, none⟩) := by rfl) (hL : ⟨g, t, n, cs⟩ ∈ L := by repeat (first | exact List.Mem.head _ | apply List.Mem.tail)) (hty : RowTy Tryd.prog ty m := by first | exact row_nd | exact row_n | exact row_half | exact row_a32 | exact row_nd2 | exact row_n2 | exact row_two | exact row_claim | exact row_bld | exact row_bnds) (hm : i + m ≤ n := by omega) (hX : cs.extract i (i + m) = X := by rfl) : wpList Tryd.prog ops Q (o :: rest) a w :=
  wpList_mem_part hM hgd ty x ho g i hx t n cs hL m hty hm X hX h
theorem ls (hM : Mem G w0 L R w) (h : ∀ w', Mem G w0 (F X) R w' → wpList Tryd.prog ops Q rest a w') (hgd : o.guard = none := by rfl) (ho : o.op = .store ty x y := by rfl) (hx : a.eval x = .pointer (some ⟨g, i, none⟩) := by rfl) (hy : a.eval y = v := by rfl) (hL : UpdL g t n cs L F := by repeat (first | exact UpdL.head _ _ _ _ _ | apply UpdL.tail)) (hty : OneTy Tryd.prog ty := by first | exact one_int | exact one_bool | exact one_u8 | exact one_bytes | exact one_sN | exact one_sRN | exact one_ssN | exact one_errno) (hi : i < n := by omega) (h1 : v.oneCell' = true := by rfl) (hdst : o.dst = none := by rfl) (hX : cs.setIfInBounds i v = X := by rfl) : wpList Tryd.prog ops Q (o :: rest) a w :=
  wpList_mem_set_to hM hgd ty x y ho g i hx v hy t n cs F hL hty hi h1 hdst X hX h
theorem lw (hM : Mem G w0 L R w) (h : ∀ w', Mem G w0 (F vs) R w' → wpList Tryd.prog ops Q rest a w') (hgd : o.guard = none := by rfl) (ho : o.op = .store ty x y := by rfl) (hx : a.eval x = .pointer (some ⟨g, 0, none⟩) := by rfl) (hy : a.eval y = .agg vs := by rfl) (hL : UpdL g t n cs L F := by repeat (first | exact UpdL.head _ _ _ _ _ | apply UpdL.tail)) (hty : RowTy Tryd.prog ty n := by first | exact row_nd | exact row_n | exact row_half | exact row_a32 | exact row_nd2 | exact row_n2 | exact row_two | exact row_claim | exact row_bld | exact row_bnds) (hs : vs.size = n := by first | with_reducible exact ndC_size _ | with_reducible exact ndC2_size _ _ | exact ndC_size _ | rfl | (simp; done)) (h1 : ∀ v ∈ vs.toList, v.oneCell' = true := by first | with_reducible exact cellsOf_one _ _ | exact cellsOf_one _ _ | exact vals_one _ _ | (simp [Value.oneCell']; done)) (hdst : o.dst = none := by rfl) : wpList Tryd.prog ops Q (o :: rest) a w :=
  wpList_mem_store hM hgd ty x y ho g hx vs hy t n cs F hL hty hs h1 hdst h
theorem lt (hM : Mem G w0 L R w) (h : ∀ w', Mem G w0 (F X) R w' → wpList Tryd.prog ops Q rest a w') (hgd : o.guard = none := by rfl) (ho : o.op = .store ty x y := by rfl) (hx : a.eval x = .pointer (some ⟨g, i, none⟩) := by rfl) (hy : a.eval y = .agg vs := by rfl) (hL : UpdL g t n cs L F := by repeat (first | exact UpdL.head _ _ _ _ _ | apply UpdL.tail)) (hty : RowTy Tryd.prog ty m := by first | exact row_nd | exact row_n | exact row_half | exact row_a32 | exact row_nd2 | exact row_n2 | exact row_two | exact row_claim | exact row_bld | exact row_bnds) (hs : vs.size = m := by first | with_reducible exact ndC_size _ | with_reducible exact ndC2_size _ _ | exact ndC_size _ | rfl | (simp; done)) (hm : i + m ≤ n := by omega) (h1 : ∀ v ∈ vs.toList, v.oneCell' = true := by first | with_reducible exact cellsOf_one _ _ | exact cellsOf_one _ _ | exact vals_one _ _ | (simp [Value.oneCell']; done)) (hdst : o.dst = none := by rfl) (hX : (splice cs.toList i vs.toList).toArray = X := by rfl) : wpList Tryd.prog ops Q (o :: rest) a w :=
  wpList_mem_store_part hM hgd ty x y ho g i hx vs hy t n cs F hL m hty hs hm h1 hdst X hX h
theorem lz (hM : Mem G w0 L R w) (h : ∀ g w', Mem G w0 (⟨g, ty, n, cs⟩ :: L) R w' → wpList Tryd.prog ops Q rest (a.put o.dst (.pointer (some ⟨g, 0, none⟩))) w') (hgd : o.guard = none := by rfl) (ho : o.op = .alloc ty := by rfl) (hz : ZeroTy Tryd.prog ty n cs := by first | exact zero_nd | exact zero_n | exact zero_hlf | exact zero_a32 | exact zero_nd2 | exact zero_n2 | exact zero_int | exact zero_two | exact zero_bld) : wpList Tryd.prog ops Q (o :: rest) a w :=
  wpList_mem_zero hM hgd ty ho n cs hz h
theorem lb (hM : Mem G w0 L R w) (h : ∀ g w', Mem G w0 (⟨g, ty, n, cs⟩ :: L) R w' → wpList Tryd.prog ops Q rest (a.put o.dst (.pointer (some ⟨g, 0, none⟩))) w') (hgd : o.guard = none := by rfl) (ho : o.op = .box ty x := by rfl) (hx : a.eval x = .agg cs := by rfl) (hty : RowTy Tryd.prog ty n := by first | exact row_nd | exact row_n | exact row_half | exact row_a32 | exact row_nd2 | exact row_n2 | exact row_two | exact row_claim | exact row_bld | exact row_bnds) (hn : cs.size = n := by first | with_reducible exact ndC_size _ | with_reducible exact ndC2_size _ _ | exact ndC_size _ | rfl | (simp; done)) : wpList Tryd.prog ops Q (o :: rest) a w :=
  wpList_mem_box hM hgd ty x ho cs hx n hty hn h
theorem qc (hM : Mem G w0 L R w) (ho : o.op = .load ty x := by rfl) (hx : a.eval x = .pointer (some ⟨g, i, none⟩) := by rfl) (hL : ⟨g, t, n, cs⟩ ∈ L := by repeat (first | exact List.Mem.head _ | apply List.Mem.tail)) (hty : OneTy Tryd.prog ty := by first | exact one_int | exact one_bool | exact one_u8 | exact one_bytes | exact one_sN | exact one_sRN | exact one_ssN | exact one_errno) (hv : cs[i]? = some v := by rfl) : o.quietAt Tryd.prog a C w v :=
  quietAt_mem_cell hM ty x ho g i hx t n cs hL hty v hv
theorem ql (hM : Mem G w0 L R w) (ho : o.op = .load ty x := by rfl) (hx : a.eval x = .pointer (some ⟨g, 0, none⟩) := by rfl) (hL : ⟨g, t, n, cs⟩ ∈ L := by repeat (first | exact List.Mem.head _ | apply List.Mem.tail)) (hty : RowTy Tryd.prog ty n := by first | exact row_nd | exact row_n | exact row_half | exact row_a32 | exact row_nd2 | exact row_n2 | exact row_two | exact row_claim | exact row_bld | exact row_bnds) : o.quietAt Tryd.prog a C w (.agg cs) :=
  quietAt_mem_load hM ty x ho g hx t n cs hL hty
theorem qp (hM : Mem G w0 L R w) (ho : o.op = .load ty x := by rfl) (hx : a.eval x = .pointer (some ⟨g, i, none⟩) := by rfl) (hL : ⟨g, t, n, cs⟩ ∈ L := by repeat (first | exact List.Mem.head _ | apply List.Mem.tail)) (hty : RowTy Tryd.prog ty m := by first | exact row_nd | exact row_n | exact row_half | exact row_a32 | exact row_nd2 | exact row_n2 | exact row_two | exact row_claim | exact row_bld | exact row_bnds) (hm : i + m ≤ n := by omega) (hX : cs.extract i (i + m) = X := by rfl) : o.quietAt Tryd.prog a C w (.agg X) :=
  quietAt_mem_part hM ty x ho g i hx t n cs hL m hty hm X hX
/-- A struct read through a slice; a cell of it. -/
theorem lr (hX : ∀ j u, X[j]? = some u → w.cell? ⟨g, i + j, none⟩ = some u) (h : wpList Tryd.prog ops Q rest (a.put o.dst (.agg X)) w) (hgd : o.guard = none := by rfl) (ho : o.op = .load ty x := by rfl) (hx : a.eval x = .pointer (some ⟨g, i, none⟩) := by rfl) (hty : RowTy Tryd.prog ty m := by first | exact row_nd | exact row_n | exact row_half | exact row_a32 | exact row_nd2 | exact row_n2 | exact row_two | exact row_claim | exact row_bld | exact row_bnds) (hs : X.size = m := by first | with_reducible exact ndC_size _ | with_reducible exact ndC2_size _ _ | exact ndC_size _ | rfl | (simp; done)) : wpList Tryd.prog ops Q (o :: rest) a w :=
  wpList_reads_load hgd ty x ho g i hx m hty X hs hX h
theorem lo (hc : w.cell? ⟨g, i, none⟩ = some v) (h : wpList Tryd.prog ops Q rest (a.put o.dst v) w) (hgd : o.guard = none := by rfl) (ho : o.op = .load ty x := by rfl) (hx : a.eval x = .pointer (some ⟨g, i, none⟩) := by rfl) (hty : OneTy Tryd.prog ty := by first | exact one_int | exact one_bool | exact one_u8 | exact one_bytes | exact one_sN | exact one_sRN | exact one_ssN | exact one_errno) : wpList Tryd.prog ops Q (o :: rest) a w :=
  wpList_one_load hgd ty x ho g i hx hty v hc h
theorem qo (hc : w.cell? ⟨g, i, none⟩ = some v) (ho : o.op = .load ty x := by rfl) (hx : a.eval x = .pointer (some ⟨g, i, none⟩) := by rfl) (hty : OneTy Tryd.prog ty := by first | exact one_int | exact one_bool | exact one_u8 | exact one_bytes | exact one_sN | exact one_sRN | exact one_ssN | exact one_errno) : o.quietAt Tryd.prog a C w v :=
  quietAt_one ty x ho g i hx hty v hc
end
end Go.Proofs.YtdnnjgjaffkdfaaDoor
namespace Go.Thg
open Go Go.RowKit Go.Bul
/-- Where the rest of a slice begins. -/
def advA (A : Option Addr) (k c size : Nat) : Option Addr := if c = k then A else A.map (·.add (k * size))
/-- The beginning of such a slice reads as the beginning. -/
theorem Reads.take {w : World} {size : Nat} {A : Option Addr} {n : Nat} {xs : List Value} (h : Reads w size A n xs) (k : Nat) (hk : k ≤ n) : Reads w size A k (xs.take (k * size)) := by
  have hm : k * size ≤ n * size := Nat.mul_le_mul_right _ hk
  refine ⟨by rw [List.length_take, h.1]; omega, fun h0 => ?_⟩
  obtain ⟨g, off, h1, h2, h3⟩ := h.2 (by omega)
  refine ⟨g, off, h1, h2, fun j u hu => h3 j u ?_⟩
  rw [List.getElem?_take] at hu
  split at hu
  · exact hu
  · cases hu
section
variable {P : Program} {w w0 : World} {G : List Nat} {L : List Ent} {R : List Thing} {ops : Array Oper} {rest : List Oper} {o : Oper} {a : Act} {Q : Exit → Act → World → Prop}
theorem run_slice_hi (t e : TypeId) (size : Nat) (ht : P.underlying t = some (.slice e)) (hs : (P.info? e).map (·.size) = some size) (A : Option Addr) (n c k : Nat) (hk : k ≤ c) (W : World) :
    (Instr.sliceAt t (.slice A n c) none (some (.int .i64 (k : Nat))) none).run P W = .ok (.slice (advA A 0 c size) k c) W := by
  have h1 : (0 : Int) ≤ (k : Int) ∧ (k : Int) ≤ (c : Int) := ⟨by omega, by omega⟩
  have hz := Go.Bul.run_sizeOf hs W
  simp [Instr.sliceAt, Instr.slice, Instr.sliceBounds, Instr.sliceBound, asIntOf, run_underlying ht, Sem.run_bind, h1, hz, advA]
  intro h
  omega
/-- append onto a thing. -/
theorem wpList_append_thing (hM : Mem G w0 L R w) (t tx e : TypeId) (z : Value) (size bytes : Nat) (ht : P.underlying t = some (.slice e)) (hi : (P.info? e).map (fun i => (i.zero, i.size, i.bytes)) = some (some z, size, bytes)) (hzs : z.cells.size = size)
    (hgd : o.guard = none) (s x : Operand) (ho : o.op = .call { callee := .builtin .append, args := #[s, x], argTypes := #[t, tx] }) (v : Value) (hv : a.eval s = v) (n : Nat) (xs : List Value) (F : Thing → List Thing) (hR : UpdR (rowT e size v n xs) R F)
    (y : Value) (hy : a.eval x = y) (m : Nat) (news : List Value) (hs : Src P size tx y m news w) (h63 : n + m ≤ 1000000000) (hbytes : bytes ≤ 1000)
    (h : ∀ A' N c' w', N = n + m → Mem G w0 L (F (rowT e size (.slice A' N c') N (xs ++ news))) w' → wpList P ops Q rest (a.put o.dst (.slice A' N c')) w') : wpList P ops Q (o :: rest) a w := by
  have hm : (n + m) * bytes ≤ 1000000000 * 1000 := Nat.mul_le_mul h63 hbytes
  obtain ⟨A', c', w', hrun, hb⟩ := run_append_off (P := P) t tx o.type e z size bytes ht hi hzs v n xs (hM.thing _ (mem_of_updR hR)) y m news hs (by unfold maxLen; omega) (by omega)
  refine wpList_plain hgd fun K hK => ?_
  unfold Oper.wp execOp
  simp only [ho, resolve, invoke, builtin, Sem.run_bind, Sem.run_pure, Result.andThen_ok, List.map_toArray, List.map_cons, List.map_nil, hv, hy, hrun]
  exact hK _ _ (h A' _ c' w' rfl (hM.turn hR hb))
end
end Go.Thg
namespace Go.Proofs.YtdnnjgjaffkdfaaDoor
open Go Go.RowKit Go.Bul Go.Thg Go.Lin
/-- A row of bytes; of windows. -/
def bT (v : Value) (xs : List Nat) : Thing := rowT 5 1 v xs.length (vals .u8 xs)
theorem bT_form {v : Value} {xs : List Nat} {w : World} (h : (bT v xs).P w) : ∃ A c, v = .slice A xs.length c ∧ xs.length ≤ c := by
  obtain ⟨A, c, h1, h2, _⟩ := OffRow.form h
  exact ⟨A, c, h1, h2⟩
theorem bT_reads {A : Option Addr} {n c : Nat} {xs : List Nat} {w : World} (h : (bT (.slice A n c) xs).P w) : Reads w 1 A n (vals .u8 xs) ∧ n = xs.length ∧ n ≤ c := by
  obtain ⟨A', c', h1, h2⟩ := bT_form h
  have e1 : n = xs.length := by injection h1
  have e2 : c = c' := by injection h1
  subst e1 e2
  exact ⟨OffRow.reads h, rfl, h2⟩
section
variable {w w0 : World} {G : List Nat} {L : List Ent} {R : List Thing} {ops : Array Oper} {rest : List Oper} {o : Oper} {a : Act} {Q : Exit → Act → World → Prop} {s x : Operand} {tx : TypeId} {v y : Value} {xs ys : List Nat} {m : Nat} {F : Thing → List Thing}
/-- append bytes onto a row of bytes. -/
theorem la (hs : Src Tryd.prog 1 tx y m (vals .u8 ys) w) (hM : Mem G w0 L R w) (h63 : xs.length + ys.length ≤ 1000000000)
    (h : ∀ A' N c' w', Hid (N = (xs ++ ys).length) → Mem G w0 L (F (bT (.slice A' N c') (xs ++ ys))) w' → wpList Tryd.prog ops Q rest (a.put o.dst (.slice A' N c')) w')
    (hgd : o.guard = none := by rfl) (ho : o.op = .call { callee := .builtin .append, args := #[s, x], argTypes := #[78, tx] } := by rfl) (hv : a.eval s = v := by rfl) (hR : UpdR (bT v xs) R F := by repeat (first | exact UpdR.head _ _ | apply UpdR.tail)) (hy : a.eval x = y := by rfl) : wpList Tryd.prog ops Q (o :: rest) a w := by
  have hl : m = ys.length := by have := hs.newsLen; simp at this; omega
  subst hl
  refine wpList_append_thing hM 78 tx 5 (.int .u8 0) 1 1 Tryd.underlying78 info_byte rfl hgd s x ho v hv xs.length (vals .u8 xs) F hR y hy _ _ hs h63 (by decide) fun A' N c' w' hN hm => ?_
  refine h A' N c' w' (Lib.hid (by simp [hN])) ?_
  have e : bT (.slice A' N c') (xs ++ ys) = rowT 5 1 (.slice A' N c') N (vals .u8 xs ++ vals .u8 ys) := by
    unfold bT
    rw [hN]
    simp [vals]
  rw [e]
  exact hm
end
section
variable {w w0 : World} {G : List Nat} {L : List Ent} {R : List Thing} {ops : Array Oper} {rest : List Oper} {o : Oper} {a : Act} {Q : Exit → Act → World → Prop} {x y : Operand} {A : Option Addr} {n c k i g : Nat} {t ty : TypeId} {cs : Array Value} {v : Value} {T e : TypeId} {size : Nat}
theorem lsl_hi (ht : Tryd.prog.underlying T = some (.slice e)) (hs : (Tryd.prog.info? e).map (·.size) = some size) (hk : k ≤ c) (hA : advA A 0 c size = A) (h : wpList Tryd.prog ops Q rest (a.put o.dst (.slice A k c)) w) (hgd : o.guard = none := by rfl) (ho : o.op = .slice T x none (some y) none := by rfl) (hx : a.eval x = .slice A n c := by rfl) (hy : a.eval y = .int .i64 (k : Nat) := by rfl) : wpList Tryd.prog ops Q (o :: rest) a w :=
  wpList_plain hgd fun K hK => by
    have hr := run_slice_hi T e size ht hs A n c k hk w
    rw [hA] at hr
    unfold Oper.wp execOp
    simp only [ho, hx, hy, Option.map_some, Option.map_none, Sem.run_bind, hr, Result.andThen_ok, Sem.run_pure]
    exact hK _ _ h
theorem lcx (hv : cs[i]? = some v) (hM : Mem G w0 L R w) (h : wpList Tryd.prog ops Q rest (a.put o.dst v) w) (hgd : o.guard = none := by rfl) (ho : o.op = .load ty x := by rfl) (hx : a.eval x = .pointer (some ⟨g, i, none⟩) := by rfl) (hL : ⟨g, t, n, cs⟩ ∈ L := by repeat (first | exact List.Mem.head _ | apply List.Mem.tail)) (hty : OneTy Tryd.prog ty := by first | exact one_int | exact one_bool | exact one_u8 | exact one_bytes | exact one_sN | exact one_sRN | exact one_ssN | exact one_errno) : wpList Tryd.prog ops Q (o :: rest) a w :=
  wpList_mem_cell hM hgd ty x ho g i hx t n cs hL hty v hv h
theorem lsx {F : Array Value → List Ent} (hi : i < n) (hM : Mem G w0 L R w) (h : ∀ w', Mem G w0 (F (cs.setIfInBounds i v)) R w' → wpList Tryd.prog ops Q rest a w') (hgd : o.guard = none := by rfl) (ho : o.op = .store ty x y := by rfl) (hx : a.eval x = .pointer (some ⟨g, i, none⟩) := by rfl) (hy : a.eval y = v := by rfl) (hL : UpdL g t n cs L F := by repeat (first | exact UpdL.head _ _ _ _ _ | apply UpdL.tail)) (hty : OneTy Tryd.prog ty := by first | exact one_int | exact one_bool | exact one_u8 | exact one_bytes | exact one_sN | exact one_sRN | exact one_ssN | exact one_errno) (h1 : v.oneCell' = true := by rfl) (hdst : o.dst = none := by rfl) : wpList Tryd.prog ops Q (o :: rest) a w :=
  wpList_mem_set_to hM hgd ty x y ho g i hx v hy t n cs F hL hty hi h1 hdst _ rfl h
end
end Go.Proofs.YtdnnjgjaffkdfaaDoor
namespace Go.Proofs.YtdnnjgjaffkdfaaDoor
open Go Go.RowKit Go.Bul Go.Thg Go.Lin
theorem bT_zero (A : Option Addr) (w : World) : (bT (.slice A 0 0) []).P w := OffRow.empty w _ _ A
theorem becomes_zero {G : List Nat} {w w' : World} (A : Option Addr) (h : KeptBut G w w') : Becomes G w (bT (.slice A 0 0) []) w' :=
  ⟨bT_zero A w', h, fun g hg => by rw [show (bT (.slice A 0 0) []).fp = [] from sFp_zero] at hg; cases hg⟩
set_option maxRecDepth 20000 in
theorem grow_nil (n : Nat) (w : World) (hn : n ≤ 1000000000) :
    Calls Tryd.prog 103 #[.slice none 0 0, .int .i64 (n : Nat)] w fun e w' => ∃ A c, e = .returned (.slice A 0 c) ∧ Becomes [] w (bT (.slice A 0 c) []) w' := by
  rcases Nat.eq_zero_or_pos n with h0 | h0
  · subst h0
    go_enter Tryd.func103, Tryd.ntmps103
    go_wp2_with fail
    go_ret
    exact ⟨none, 0, rfl, becomes_zero none (KeptBut.refl _ _)⟩
  · obtain ⟨i, hi', hz', hs', hb'⟩ := info_parts info_byte
    have hold : (Builtin.firstCells i.size 0 (.slice none 0 0)).run Tryd.prog w.drew = .ok ([] : List Value).toArray w.drew := run_firstCells_none w.drew i.size 0 0 0
    have h := fun ty => Lib.run_append_grow_zeros (P := Tryd.prog) w 78 3 ty 5 i (.int .u8 0) .i64 .i64 Tryd.underlying78 Tryd.underlying3 hi' hz' none 0 0 [] hold n h0 (by omega) (by omega) (by omega) (by rw [hb']; omega) (by rw [hb']; exact growslice_fits (by omega) (by omega))
    simp only [Nat.zero_add] at h
    have hge := grownCap_ge w n 0 5
    have hcm := grownCap_le_maxLen w n 0 5 (by unfold maxLen; omega)
    obtain ⟨W, hW⟩ : ∃ W, w.drew.alloc (.cells (([] : List Value).toArray ++ Builtin.zeroCells (Value.int .u8 0).cells n ++ Builtin.zeroCells (Value.int .u8 0).cells (grownCap w n 0 5 - n)) 5) = W := ⟨_, rfl⟩
    have hB : Becomes [] w (bT (.slice (some ⟨w.heap.size, 0, none⟩) 0 (grownCap w n 0 5)) []) W := by
      rw [← hW]
      refine ⟨⟨rfl, _, _, rfl, by simp, hcm, fun _ => ⟨w.heap.size, 0, _, rfl, heap_alloc_new w.drew _, ?_, fun j hj => absurd hj (by simp)⟩⟩, ⟨rfl, rfl, rfl, by simp, fun k hk _ => Below.heap_alloc w.drew _ k hk⟩, fun k hk => .inr ?_⟩
      · rw [Array.size_append, Array.size_append, size_zeroCells, size_zeroCells]
        simp [Value.cells]
        omega
      · have hk' : k ∈ sFp (.slice (some ⟨w.heap.size, 0, none⟩) 0 (grownCap w n 0 5)) := hk
        rw [sFp_pos (by omega)] at hk'
        rw [List.mem_singleton.1 hk']
        exact Nat.le_refl _
    rw [hW] at h
    obtain ⟨G, hG⟩ : ∃ G, grownCap w n 0 5 = G := ⟨_, rfl⟩
    rw [hG] at h hB hge hcm
    have hG63 : G ≤ 9223372036854775807 := by unfold maxLen at hcm; omega
    have HB := Lib.hid hB
    have wn : IntKind.i64.wrap (n : Int) = (n : Int) := IntWalk.i64_in _ ⟨by omega, by omega⟩
    have c1 : decide ((0 : Int) < (n : Int)) = true := decide_eq_true (by omega)
    have c2 : decide ((n : Int) < 0) = false := decide_eq_false (by omega)
    have c3 : decide (0 < n) = true := decide_eq_true h0
    clear hold hi' hz' hs' hb' hB hW hG hcm
    go_enter Tryd.func103, Tryd.ntmps103
    go_wp2_with (at_builtin; refine Lib.wpList_append_run _ rfl _ _ _ _ rfl _ _ rfl rfl _ _ (h _) ?_)
    go_ret
    exact ⟨_, _, rfl, HB.out⟩
end Go.Proofs.YtdnnjgjaffkdfaaDoor
