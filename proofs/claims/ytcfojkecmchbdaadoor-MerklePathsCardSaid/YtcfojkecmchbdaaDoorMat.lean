/- Types of trees: sizes, zero values; nodes. The laws of the walk. -/
import Derived.Test.YtcfojkecmchbdaaDoorThw
import Derived.Test.YtcfojkecmchbdaaDoorShb
import Derived.Test.YtcfojkecmchbdaaDoorProg
import Derived.Tactics2
import Derived.WalkSpells
import Derived.WalkKit
import Derived.LoopTactic
namespace Go.Thg
open Go Go.RowKit Go.Bul
theorem wpList_mem_set_to {P : Program} {w w0 : World} {G : List Nat} {L : List Ent} {R : List Thing} {ops : Array Oper} {rest : List Oper} {o : Oper} {a : Act} {Q : Exit → Act → World → Prop}
    (hM : Mem G w0 L R w) (hgd : o.guard = none) (ty : TypeId) (x y : Operand) (ho : o.op = .store ty x y) (g i : Nat) (hx : a.eval x = .pointer (some ⟨g, i, none⟩))
    (v : Value) (hy : a.eval y = v) (t : TypeId) (n : Nat) (cs : Array Value) (F : Array Value → List Ent) (hL : UpdL g t n cs L F) (hty : OneTy P ty) (hi : i < n) (h1 : v.oneCell' = true)
    (hdst : o.dst = none) (X : Array Value) (hX : cs.setIfInBounds i v = X) (h : ∀ w', Mem G w0 (F X) R w' → wpList P ops Q rest a w') : wpList P ops Q (o :: rest) a w := by
  subst hX
  exact wpList_mem_set hM hgd ty x y ho g i hx v hy t n cs F hL hty hi h1 hdst h
/-- What a slice reads as: n elements of so many cells. -/
def Reads (w : World) (size : Nat) (A : Option Addr) (n : Nat) (xs : List Value) : Prop :=
  xs.length = n * size ∧ (0 < n → ∃ g off, A = some ⟨g, off, none⟩ ∧ g < w.heap.size ∧ ∀ j u, xs[j]? = some u → w.cell? ⟨g, off + j, none⟩ = some u)
theorem Reads.keep {w w' : World} {size : Nat} {A : Option Addr} {n : Nat} {xs : List Value} (h : Reads w size A n xs) (hb : Below w.heap.size w w') : Reads w' size A n xs :=
  ⟨h.1, fun hn => by
    obtain ⟨g, off, h1, h2, h3⟩ := h.2 hn
    exact ⟨g, off, h1, Nat.lt_of_lt_of_le h2 hb.size, fun j u hu => (hb.cell (p := ⟨g, off + j, none⟩) h2).trans (h3 j u hu)⟩⟩
theorem OffRow.reads {w : World} {e : TypeId} {size : Nat} {A : Option Addr} {n c : Nat} {xs : List Value} (h : OffRow w e size (.slice A n c) n xs) : Reads w size A n xs :=
  ⟨h.1, fun hn => by
    obtain ⟨g, off, h1, h2, h3, _⟩ := h.cells hn
    exact ⟨g, off, h1, h2, h3⟩⟩
theorem Reads.nil (w : World) (size : Nat) (A : Option Addr) : Reads w size A 0 [] := ⟨by simp, fun h => by omega⟩
theorem Reads.src {P : Program} {w : World} {size : Nat} {A : Option Addr} {n c : Nat} {xs : List Value} {tx e' : TypeId} (h : Reads w size A n xs) (hk : P.underlying tx = some (.slice e')) (h1 : ∀ u ∈ xs, u.oneCell' = true) : Src P size tx (.slice A n c) n xs w := by
  rcases Nat.eq_zero_or_pos n with hn | hn
  · subst hn
    have hx : xs = [] := List.eq_nil_of_length_eq_zero (by simpa using h.1)
    subst hx
    cases A with
    | none => exact Src.ofNil w hk c
    | some a => exact Src.ofSlice w hk a 0 c [] (by simp) (by simp) h1
  · obtain ⟨g, off, rfl, _, h2⟩ := h.2 hn
    exact Src.ofSlice w hk _ n c xs h.1 (fun j u hu => by rw [addr_at]; exact h2 j u hu) h1
/-- A cell that is known, wherever. -/
theorem run_one_load {P : Program} {w : World} {ty : TypeId} (hty : OneTy P ty) {g off : Nat} {v : Value} (hc : w.cell? ⟨g, off, none⟩ = some v) : (loadVar ty ⟨g, off, none⟩).run P w = .ok v w := by
  obtain ⟨d, hu, hd, _⟩ := hty.ex
  simp [loadVar, Sem.run_bind, run_isAgg_no hu hd, hc]
theorem wpList_one_load {P : Program} {w : World} {ops : Array Oper} {rest : List Oper} {o : Oper} {a : Act} {Q : Exit → Act → World → Prop} (hgd : o.guard = none) (ty : TypeId) (x : Operand) (ho : o.op = .load ty x) (g off : Nat) (hx : a.eval x = .pointer (some ⟨g, off, none⟩))
    (hty : OneTy P ty) (v : Value) (hc : w.cell? ⟨g, off, none⟩ = some v) (h : wpList P ops Q rest (a.put o.dst v) w) : wpList P ops Q (o :: rest) a w :=
  wpList_plain hgd fun K hK => by
    unfold Oper.wp execOp
    simp only [ho, hx, Instr.loadAt, Instr.sureAddr, Sem.run_bind, Sem.run_pure, Result.andThen_ok, run_one_load hty hc]
    exact hK _ _ h
theorem quietAt_one {P : Program} {C : World → Prop} {w : World} {o : Oper} {a : Act} (ty : TypeId) (x : Operand) (ho : o.op = .load ty x) (g off : Nat) (hx : a.eval x = .pointer (some ⟨g, off, none⟩)) (hty : OneTy P ty) (v : Value) (hc : w.cell? ⟨g, off, none⟩ = some v) :
    o.quietAt P a C w v := by
  unfold Oper.quietAt execOp
  simp only [ho, hx, Instr.loadAt, Instr.sureAddr, Sem.run_bind, Sem.run_pure, Result.andThen_ok, run_one_load hty hc]
  exact ⟨rfl, rfl⟩
/-- A struct read through a slice: one of its elements. -/
theorem wpList_reads_load {P : Program} {w : World} {ops : Array Oper} {rest : List Oper} {o : Oper} {a : Act} {Q : Exit → Act → World → Prop} (hgd : o.guard = none) (ty : TypeId) (x : Operand) (ho : o.op = .load ty x) (g off : Nat) (hx : a.eval x = .pointer (some ⟨g, off, none⟩))
    (m : Nat) (hty : RowTy P ty m) (X : Array Value) (hm : X.size = m) (hX : ∀ j u, X[j]? = some u → w.cell? ⟨g, off + j, none⟩ = some u) (h : wpList P ops Q rest (a.put o.dst (.agg X)) w) : wpList P ops Q (o :: rest) a w := by
  obtain ⟨d, hu, hd, hi⟩ := hty.ex
  refine wpList_plain hgd fun K hK => ?_
  have hl : (loadCells ⟨g, off, none⟩ X.toList.length).run P w = .ok X.toList.toArray w :=
    run_loadCells_list (P := P) w ⟨g, off, none⟩ X.toList (fun j u hu => by rw [addr_at]; exact hX j u (by simpa using hu))
  rw [Array.length_toList, hm] at hl
  simp only [Array.toArray_toList] at hl
  have hrun : (loadVar ty ⟨g, off, none⟩).run P w = .ok (.agg X) w := by simp [loadVar, Sem.run_bind, run_isAgg hu hd, Go.Bul.run_sizeOf hi, hl]
  unfold Oper.wp execOp
  simp only [ho, hx, Instr.loadAt, Instr.sureAddr, Sem.run_bind, Sem.run_pure, Result.andThen_ok, hrun]
  exact hK _ _ h
end Go.Thg
namespace Go.Lin
open Go Go.Bul
/-- A node: 16 bytes. -/
structure Nd where
  val : List Nat
  len : val.length = 16
  byt : Bytes val
theorem Nd.ext' {a b : Nd} (h : a.val = b.val) : a = b := by
  obtain ⟨x, _, _⟩ := a
  obtain ⟨y, _, _⟩ := b
  subst h
  rfl
instance : DecidableEq Nd := fun a b => if h : a.val = b.val then .isTrue (Nd.ext' h) else .isFalse fun e => h (by rw [e])
abbrev ndC (x : Nd) : Array Value := cellsOf .u8 x.val
theorem ndC_size (x : Nd) : (ndC x).size = 16 := by rw [cellsOf_size, x.len]
abbrev ndC2 (x y : Nd) : Array Value := cellsOf .u8 (x.val ++ y.val)
theorem ndC2_size (x y : Nd) : (ndC2 x y).size = 32 := by rw [cellsOf_size, List.length_append, x.len, y.len]
def nd0 : Nd := ⟨Go.Thg.zeros 16, rfl, by intro x hx; have := List.eq_of_mem_replicate hx; omega⟩
def halfN (l : List Nat) : Nd := ⟨half l, half_length l, bytes_half l⟩
theorem cellsOf_one (k : IntKind) (l : List Nat) : ∀ u ∈ (cellsOf k l).toList, u.oneCell' = true := fun u hu => vals_one k l u (by simpa [cellsOf] using hu)
end Go.Lin
namespace Go.Proofs.YtcfojkecmchbdaaDoor
open Go Go.RowKit Go.Bul Go.Thg Go.Lin
theorem row_nd : RowTy Tryd.prog 27 16 := ⟨⟨_, Tryd.underlying27, rfl, by kernel_rfl⟩⟩
theorem row_n : RowTy Tryd.prog 24 16 := ⟨⟨_, Tryd.underlying24, rfl, by kernel_rfl⟩⟩
theorem row_half : RowTy Tryd.prog 82 16 := ⟨⟨_, Tryd.underlying82, rfl, by kernel_rfl⟩⟩
theorem row_a32 : RowTy Tryd.prog 98 32 := ⟨⟨_, Tryd.underlying98, rfl, by kernel_rfl⟩⟩
theorem row_nd2 : RowTy Tryd.prog 55 32 := ⟨⟨_, Tryd.underlying55, rfl, by kernel_rfl⟩⟩
theorem row_n2 : RowTy Tryd.prog 25 32 := ⟨⟨_, Tryd.underlying25, rfl, by kernel_rfl⟩⟩
theorem row_two : RowTy Tryd.prog 57 65 := ⟨⟨_, Tryd.underlying57, rfl, by kernel_rfl⟩⟩
theorem row_claim : RowTy Tryd.prog 48 18 := ⟨⟨_, Tryd.underlying48, rfl, by kernel_rfl⟩⟩
theorem row_bld : RowTy Tryd.prog 72 177 := ⟨⟨_, Tryd.underlying72, rfl, by kernel_rfl⟩⟩
theorem row_bnds : RowTy Tryd.prog 70 176 := ⟨⟨_, Tryd.underlying70, rfl, by kernel_rfl⟩⟩
theorem one_int : OneTy Tryd.prog 3 := ⟨⟨_, Tryd.underlying3, rfl, by kernel_rfl⟩⟩
theorem one_bool : OneTy Tryd.prog 4 := ⟨⟨_, Tryd.underlying4, rfl, by kernel_rfl⟩⟩
theorem one_u8 : OneTy Tryd.prog 5 := ⟨⟨_, Tryd.underlying5, rfl, by kernel_rfl⟩⟩
theorem one_bytes : OneTy Tryd.prog 22 := ⟨⟨_, Tryd.underlying22, rfl, by kernel_rfl⟩⟩
theorem one_sN : OneTy Tryd.prog 37 := ⟨⟨_, Tryd.underlying37, rfl, by kernel_rfl⟩⟩
theorem one_sRN : OneTy Tryd.prog 33 := ⟨⟨_, Tryd.underlying33, rfl, by kernel_rfl⟩⟩
theorem one_ssN : OneTy Tryd.prog 87 := ⟨⟨_, Tryd.underlying87, rfl, by kernel_rfl⟩⟩
theorem one_errno : OneTy Tryd.prog 34 := ⟨⟨_, Tryd.underlying34, rfl, by kernel_rfl⟩⟩
theorem zero_nd : ZeroTy Tryd.prog 27 16 (ndC nd0) := ⟨⟨.agg _, by kernel_rfl, rfl, by rw [cellsOf_size]; rfl⟩⟩
theorem zero_n : ZeroTy Tryd.prog 24 16 (ndC nd0) := ⟨⟨.agg _, by kernel_rfl, rfl, by rw [cellsOf_size]; rfl⟩⟩
theorem zero_hlf : ZeroTy Tryd.prog 82 16 (ndC nd0) := ⟨⟨.agg _, by kernel_rfl, rfl, by rw [cellsOf_size]; rfl⟩⟩
theorem zero_a32 : ZeroTy Tryd.prog 98 32 (cellsOf .u8 (zeros 32)) := ⟨⟨.agg _, by kernel_rfl, rfl, by rw [cellsOf_size]; rfl⟩⟩
theorem zero_nd2 : ZeroTy Tryd.prog 55 32 (ndC2 nd0 nd0) := ⟨⟨.agg _, by kernel_rfl, rfl, ndC2_size _ _⟩⟩
theorem zero_n2 : ZeroTy Tryd.prog 25 32 (ndC2 nd0 nd0) := ⟨⟨.agg _, by kernel_rfl, rfl, ndC2_size _ _⟩⟩
theorem zero_int : ZeroTy Tryd.prog 3 1 #[.int .i64 0] := ⟨⟨.int .i64 0, by kernel_rfl, rfl, rfl⟩⟩
theorem zero_two : ZeroTy Tryd.prog 57 65 (#[.int .i64 0] ++ cellsOf .u8 (zeros 64)) := ⟨⟨.agg _, by kernel_rfl, rfl, by rw [Array.size_append, cellsOf_size]; rfl⟩⟩
set_option maxRecDepth 20000 in
theorem zero_bld : ZeroTy Tryd.prog 72 177 (cellsOf .u8 (zeros 176) ++ #[.int .i64 0]) := ⟨⟨.agg _, by kernel_rfl, rfl, by rw [Array.size_append, cellsOf_size]; rfl⟩⟩
theorem info_byte : (Tryd.prog.info? 5).map (fun i => (i.zero, i.size, i.bytes)) = some (some (.int .u8 0), 1, 1) := by kernel_rfl
theorem info_nd : (Tryd.prog.info? 27).map (fun i => (i.zero, i.size, i.bytes)) = some (some (.agg (ndC nd0)), 16, 16) := by kernel_rfl
theorem info_n : (Tryd.prog.info? 24).map (fun i => (i.zero, i.size, i.bytes)) = some (some (.agg (ndC nd0)), 16, 16) := by kernel_rfl
section
variable {w w0 : World} {G : List Nat} {L : List Ent} {R : List Thing} {ops : Array Oper} {rest : List Oper} {o : Oper} {a : Act} {Q : Exit → Act → World → Prop} {C : World → Prop} {ty : TypeId} {x y : Operand} {g i m n : Nat} {t : TypeId} {cs vs X : Array Value} {v : Value} {F : Array Value → List Ent}
/-! The laws of the walk, with all their conditions found by themselves. -/
theorem lc (hM : Mem G w0 L R w) (h : wpList Tryd.prog ops Q rest (a.put o.dst v) w) (hgd : o.guard = none := by rfl) (ho : o.op = .load ty x := by rfl) (hx : a.eval x = .pointer (some ⟨g, i, none⟩) := by rfl) (hL : ⟨g, t, n, cs⟩ ∈ L := by repeat (first | exact List.Mem.head _ | apply List.Mem.tail)) (hty : OneTy Tryd.prog ty := by first | exact one_int | exact one_bool | exact one_u8 | exact one_bytes | exact one_sN | exact one_sRN | exact one_ssN | exact one_errno) (hv : cs[i]? = some v := by rfl) : wpList Tryd.prog ops Q (o :: rest) a w :=
  wpList_mem_cell hM hgd ty x ho g i hx t n cs hL hty v hv h
theorem ll (hM : Mem G w0 L R w) (h : wpList Tryd.prog ops Q rest (a.put o.dst (.agg cs)) w) (hgd : o.guard = none := by rfl) (ho : o.op = .load ty x := by rfl) (hx : a.eval x = .pointer (some ⟨g, 0, none⟩) := by rfl) (hL : ⟨g, t, n, cs⟩ ∈ L := by repeat (first | exact List.Mem.head _ | apply List.Mem.tail)) (hty : RowTy Tryd.prog ty n := by first | exact row_nd | exact row_n | exact row_half | exact row_a32 | exact row_nd2 | exact row_n2 | exact row_two | exact row_claim | exact row_bld | exact row_bnds) : wpList Tryd.prog ops Q (o :: rest) a w :=
  wpList_mem_load hM hgd ty x ho g hx t n cs hL hty h
theorem lp (hM : Mem G w0 L R w) (h : wpList Tryd.prog ops Q rest (a.put o.dst (.agg X)) w) (hgd : o.guard = none := by rfl) (ho : o.op = .load ty x := by rfl) (hx : a.eval x = .pointer (some ⟨g, i, none⟩) := by rfl) (hL : ⟨g, t, n, cs⟩ ∈ L := by repeat (first | exact List.Mem.head _ | apply List.Mem.tail)) (hty : RowTy Tryd.prog ty m := by first | exact row_nd | exact row_n | exact row_half | exact row_a32 | exact row_nd2 | exact row_n2 | exact row_two | exact row_claim | exact row_bld | exact row_bnds) (hm : i + m ≤ n := by omega) (hX : cs.extract i (i + m) = X := by rfl) : wpList Tryd.prog ops Q (o :: rest) a w :=
  wpList_mem_part hM hgd ty x ho g i hx t n cs hL m hty hm X hX h
theorem ls (hM : Mem G w0 L R w) (h : ∀ w', Mem G w0 (F X) R w' → wpList Tryd.prog ops Q rest a w') (hgd : o.guard = none := by rfl) (ho : o.op = .store ty x y := by rfl) (hx : a.eval x = .pointer (some ⟨g, i, none⟩) := by rfl) (hy : a.eval y = v := by rfl) (hL : UpdL g t n cs L F := by repeat (first | exact UpdL.head _ _ _ _ _ | apply UpdL.tail)) (hty : OneTy Tryd.prog ty := by first | exact one_int | exact one_bool | exact one_u8 | exact one_bytes | exact one_sN | exact one_sRN | exact one_ssN | exact one_errno) (hi : i < n := by omega) (h1 : v.oneCell' = true := by rfl) (hdst : o.dst = none := by rfl) (hX : cs.setIfInBounds i v = X := by rfl) : wpList Tryd.prog ops Q (o :: rest) a w :=
  wpList_mem_set_to hM hgd ty x y ho g i hx v hy t n cs F hL hty hi h1 hdst X hX h
theorem lw (hM : Mem G w0 L R w) (h : ∀ w', Mem G w0 (F vs) R w' → wpList Tryd.prog ops Q rest a w') (hgd : o.guard = none := by rfl) (ho : o.op = .store ty x y := by rfl) (hx : a.eval x = .pointer (some ⟨g, 0, none⟩) := by rfl) (hy : a.eval y = .agg vs := by rfl) (hL : UpdL g t n cs L F := by repeat (first | exact UpdL.head _ _ _ _ _ | apply UpdL.tail)) (hty : RowTy Tryd.prog ty n := by first | exact row_nd | exact row_n | exact row_half | exact row_a32 | exact row_nd2 | exact row_n2 | exact row_two | exact row_claim | exact row_bld | exact row_bnds) (hs : vs.size = n := by first | with_reducible exact ndC_size _ | with_reducible exact ndC2_size _ _ | exact ndC_size _ | rfl | (simp; done)) (h1 : ∀ v ∈ vs.toList, v.oneCell' = true := by first | with_reducible exact cellsOf_one _ _ | exact cellsOf_one _ _ | exact vals_one _ _ | (simp [Value.oneCell']; done)) (hdst : o.dst = none := by rfl) : wpList Tryd.prog ops Q (o :: rest) a w :=
  wpList_mem_store hM hgd ty x y ho g hx vs hy t n cs F hL hty hs h1 hdst h
theorem lt (hM : Mem G w0 L R w) (h : ∀ w', Mem G w0 (F X) R w' → wpList Tryd.prog ops Q rest a w') (hgd : o.guard = none := by rfl) (ho : o.op = .store ty x y := by rfl) (hx : a.eval x = .pointer (some ⟨g, i, none⟩) := by rfl) (hy : a.eval y = .agg vs := by rfl) (hL : UpdL g t n cs L F := by repeat (first | exact UpdL.head _ _ _ _ _ | apply UpdL.tail)) (hty : RowTy Tryd.prog ty m := by first | exact row_nd | exact row_n | exact row_half | exact row_a32 | exact row_nd2 | exact row_n2 | exact row_two | exact row_claim | exact row_bld | exact row_bnds) (hs : vs.size = m := by first | with_reducible exact ndC_size _ | with_reducible exact ndC2_size _ _ | exact ndC_size _ | rfl | (simp; done)) (hm : i + m ≤ n := by omega) (h1 : ∀ v ∈ vs.toList, v.oneCell' = true := by first | with_reducible exact cellsOf_one _ _ | exact cellsOf_one _ _ | exact vals_one _ _ | (simp [Value.oneCell']; done)) (hdst : o.dst = none := by rfl) (hX : (splice cs.toList i vs.toList).toArray = X := by rfl) : wpList Tryd.prog ops Q (o :: rest) a w :=
  wpList_mem_store_part hM hgd ty x y ho g i hx vs hy t n cs F hL m hty hs hm h1 hdst X hX h
theorem lz (hM : Mem G w0 L R w) (h : ∀ g w', Mem G w0 (⟨g, ty, n, cs⟩ :: L) R w' → wpList Tryd.prog ops Q rest (a.put o.dst (.pointer (some ⟨g, 0, none⟩))) w') (hgd : o.guard = none := by rfl) (ho : o.op = .alloc ty := by rfl) (hz : ZeroTy Tryd.prog ty n cs := by first | exact zero_nd | exact zero_n | exact zero_hlf | exact zero_a32 | exact zero_nd2 | exact zero_n2 | exact zero_int | exact zero_two | exact zero_bld) : wpList Tryd.prog ops Q (o :: rest) a w :=
  wpList_mem_zero hM hgd ty ho n cs hz h
theorem lb (hM : Mem G w0 L R w) (h : ∀ g w', Mem G w0 (⟨g, ty, n, cs⟩ :: L) R w' → wpList Tryd.prog ops Q rest (a.put o.dst (.pointer (some ⟨g, 0, none⟩))) w') (hgd : o.guard = none := by rfl) (ho : o.op = .box ty x := by rfl) (hx : a.eval x = .agg cs := by rfl) (hty : RowTy Tryd.prog ty n := by first | exact row_nd | exact row_n | exact row_half | exact row_a32 | exact row_nd2 | exact row_n2 | exact row_two | exact row_claim | exact row_bld | exact row_bnds) (hn : cs.size = n := by first | with_reducible exact ndC_size _ | with_reducible exact ndC2_size _ _ | exact ndC_size _ | rfl | (simp; done)) : wpList Tryd.prog ops Q (o :: rest) a w :=
  wpList_mem_box hM hgd ty x ho cs hx n hty hn h
theorem qc (hM : Mem G w0 L R w) (ho : o.op = .load ty x := by rfl) (hx : a.eval x = .pointer (some ⟨g, i, none⟩) := by rfl) (hL : ⟨g, t, n, cs⟩ ∈ L := by repeat (first | exact List.Mem.head _ | apply List.Mem.tail)) (hty : OneTy Tryd.prog ty := by first | exact one_int | exact one_bool | exact one_u8 | exact one_bytes | exact one_sN | exact one_sRN | exact one_ssN | exact one_errno) (hv : cs[i]? = some v := by rfl) : o.quietAt Tryd.prog a C w v :=
  quietAt_mem_cell hM ty x ho g i hx t n cs hL hty v hv
theorem ql (hM : Mem G w0 L R w) (ho : o.op = .load ty x := by rfl) (hx : a.eval x = .pointer (some ⟨g, 0, none⟩) := by rfl) (hL : ⟨g, t, n, cs⟩ ∈ L := by repeat (first | exact List.Mem.head _ | apply List.Mem.tail)) (hty : RowTy Tryd.prog ty n := by first | exact row_nd | exact row_n | exact row_half | exact row_a32 | exact row_nd2 | exact row_n2 | exact row_two | exact row_claim | exact row_bld | exact row_bnds) : o.quietAt Tryd.prog a C w (.agg cs) :=
  quietAt_mem_load hM ty x ho g hx t n cs hL hty
theorem qp (hM : Mem G w0 L R w) (ho : o.op = .load ty x := by rfl) (hx : a.eval x = .pointer (some ⟨g, i, none⟩) := by rfl) (hL : ⟨g, t, n, cs⟩ ∈ L := by repeat (first | exact List.Mem.head _ | apply List.Mem.tail)) (hty : RowTy Tryd.prog ty m := by first | exact row_nd | exact row_n | exact row_half | exact row_a32 | exact row_nd2 | exact row_n2 | exact row_two | exact row_claim | exact row_bld | exact row_bnds) (hm : i + m ≤ n := by omega) (hX : cs.extract i (i + m) = X := by rfl) : o.quietAt Tryd.prog a C w (.agg X) :=
  quietAt_mem_part hM ty x ho g i hx t n cs hL m hty hm X hX
/-- A struct read through a slice; a cell of it. -/
theorem lr (hX : ∀ j u, X[j]? = some u → w.cell? ⟨g, i + j, none⟩ = some u) (h : wpList Tryd.prog ops Q rest (a.put o.dst (.agg X)) w) (hgd : o.guard = none := by rfl) (ho : o.op = .load ty x := by rfl) (hx : a.eval x = .pointer (some ⟨g, i, none⟩) := by rfl) (hty : RowTy Tryd.prog ty m := by first | exact row_nd | exact row_n | exact row_half | exact row_a32 | exact row_nd2 | exact row_n2 | exact row_two | exact row_claim | exact row_bld | exact row_bnds) (hs : X.size = m := by first | with_reducible exact ndC_size _ | with_reducible exact ndC2_size _ _ | exact ndC_size _ | rfl | (simp; done)) : wpList Tryd.prog ops Q (o :: rest) a w :=
  wpList_reads_load hgd ty x ho g i hx m hty X hs hX h
theorem lo (hc : w.cell? ⟨g, i, none⟩ = some v) (h : wpList Tryd.prog ops Q rest (a.put o.dst v) w) (hgd : o.guard = none := by rfl) (ho : o.op = .load ty x := by rfl) (hx : a.eval x = .pointer (some ⟨g, i, none⟩) := by rfl) (hty : OneTy Tryd.prog ty := by first | exact one_int | exact one_bool | exact one_u8 | exact one_bytes | exact one_sN | exact one_sRN | exact one_ssN | exact one_errno) : wpList Tryd.prog ops Q (o :: rest) a w :=
  wpList_one_load hgd ty x ho g i hx hty v hc h
theorem qo (hc : w.cell? ⟨g, i, none⟩ = some v) (ho : o.op = .load ty x := by rfl) (hx : a.eval x = .pointer (some ⟨g, i, none⟩) := by rfl) (hty : OneTy Tryd.prog ty := by first | exact one_int | exact one_bool | exact one_u8 | exact one_bytes | exact one_sN | exact one_sRN | exact one_ssN | exact one_errno) : o.quietAt Tryd.prog a C w v :=
  quietAt_one ty x ho g i hx hty v hc
end
end Go.Proofs.YtcfojkecmchbdaaDoor
