/- Types of lines: sizes, zero values, parts; windows in memory. -/
import Derived.Test.YtenflgbaibjeoaaThw
import Derived.Test.YtenflgbaibjeoaaMna
import Derived.Test.YtenflgbaibjeoaaProg
import Derived.Tactics2
import Derived.WalkSpells
import Derived.WalkKit
import Derived.LoopTactic
namespace Go.Thg
open Go Go.RowKit Go.Bul
theorem wpList_mem_set_to {P : Program} {w w0 : World} {G : List Nat} {L : List Ent} {R : List Thing} {ops : Array Oper} {rest : List Oper} {o : Oper} {a : Act} {Q : Exit → Act → World → Prop}
    (hM : Mem G w0 L R w) (hgd : o.guard = none) (ty : TypeId) (x y : Operand) (ho : o.op = .store ty x y) (g i : Nat) (hx : a.eval x = .pointer (some ⟨g, i, none⟩))
    (v : Value) (hy : a.eval y = v) (t : TypeId) (n : Nat) (cs : Array Value) (F : Array Value → List Ent) (hL : UpdL g t n cs L F) (hty : OneTy P ty) (hi : i < n) (h1 : v.oneCell' = true)
    (hdst : o.dst = none) (X : Array Value) (hX : cs.setIfInBounds i v = X) (h : ∀ w', Mem G w0 (F X) R w' → wpList P ops Q rest a w') : wpList P ops Q (o :: rest) a w := by
  subst hX
  exact wpList_mem_set hM hgd ty x y ho g i hx v hy t n cs F hL hty hi h1 hdst h
/-- What a slice reads as: n elements of so many cells. -/
def Reads (w : World) (size : Nat) (A : Option Addr) (n : Nat) (xs : List Value) : Prop :=
  xs.length = n * size ∧ (0 < n → ∃ g off, A = some ⟨g, off, none⟩ ∧ g < w.heap.size ∧ ∀ j u, xs[j]? = some u → w.cell? ⟨g, off + j, none⟩ = some u)
theorem Reads.keep {w w' : World} {size : Nat} {A : Option Addr} {n : Nat} {xs : List Value} (h : Reads w size A n xs) (hb : Below w.heap.size w w') : Reads w' size A n xs :=
  ⟨h.1, fun hn => by
    obtain ⟨g, off, h1, h2, h3⟩ := h.2 hn
    exact ⟨g, off, h1, Nat.lt_of_lt_of_le h2 hb.size, fun j u hu => (hb.cell (p := ⟨g, off + j, none⟩) h2).trans (h3 j u hu)⟩⟩
theorem OffRow.reads {w : World} {e : TypeId} {size : Nat} {A : Option Addr} {n c : Nat} {xs : List Value} (h : OffRow w e size (.slice A n c) n xs) : Reads w size A n xs :=
  ⟨h.1, fun hn => by
    obtain ⟨g, off, h1, h2, h3, _⟩ := h.cells hn
    exact ⟨g, off, h1, h2, h3⟩⟩
theorem Reads.nil (w : World) (size : Nat) (A : Option Addr) : Reads w size A 0 [] := ⟨by simp, fun h => by omega⟩
theorem Reads.src {P : Program} {w : World} {size : Nat} {A : Option Addr} {n c : Nat} {xs : List Value} {tx e' : TypeId} (h : Reads w size A n xs) (hk : P.underlying tx = some (.slice e')) (h1 : ∀ u ∈ xs, u.oneCell' = true) : Src P size tx (.slice A n c) n xs w := by
  rcases Nat.eq_zero_or_pos n with hn | hn
  · subst hn
    have hx : xs = [] := List.eq_nil_of_length_eq_zero (by simpa using h.1)
    subst hx
    cases A with
    | none => exact Src.ofNil w hk c
    | some a => exact Src.ofSlice w hk a 0 c [] (by simp) (by simp) h1
  · obtain ⟨g, off, rfl, _, h2⟩ := h.2 hn
    exact Src.ofSlice w hk _ n c xs h.1 (fun j u hu => by rw [addr_at]; exact h2 j u hu) h1
/-- A cell that is known, wherever. -/
theorem run_one_load {P : Program} {w : World} {ty : TypeId} (hty : OneTy P ty) {g off : Nat} {v : Value} (hc : w.cell? ⟨g, off, none⟩ = some v) : (loadVar ty ⟨g, off, none⟩).run P w = .ok v w := by
  obtain ⟨d, hu, hd, _⟩ := hty.ex
  simp [loadVar, Sem.run_bind, run_isAgg_no hu hd, hc]
theorem wpList_one_load {P : Program} {w : World} {ops : Array Oper} {rest : List Oper} {o : Oper} {a : Act} {Q : Exit → Act → World → Prop} (hgd : o.guard = none) (ty : TypeId) (x : Operand) (ho : o.op = .load ty x) (g off : Nat) (hx : a.eval x = .pointer (some ⟨g, off, none⟩))
    (hty : OneTy P ty) (v : Value) (hc : w.cell? ⟨g, off, none⟩ = some v) (h : wpList P ops Q rest (a.put o.dst v) w) : wpList P ops Q (o :: rest) a w :=
  wpList_plain hgd fun K hK => by
    unfold Oper.wp execOp
    simp only [ho, hx, Instr.loadAt, Instr.sureAddr, Sem.run_bind, Sem.run_pure, Result.andThen_ok, run_one_load hty hc]
    exact hK _ _ h
theorem quietAt_one {P : Program} {C : World → Prop} {w : World} {o : Oper} {a : Act} (ty : TypeId) (x : Operand) (ho : o.op = .load ty x) (g off : Nat) (hx : a.eval x = .pointer (some ⟨g, off, none⟩)) (hty : OneTy P ty) (v : Value) (hc : w.cell? ⟨g, off, none⟩ = some v) :
    o.quietAt P a C w v := by
  unfold Oper.quietAt execOp
  simp only [ho, hx, Instr.loadAt, Instr.sureAddr, Sem.run_bind, Sem.run_pure, Result.andThen_ok, run_one_load hty hc]
  exact ⟨rfl, rfl⟩
/-- A struct read through a slice: one of its elements. -/
theorem wpList_reads_load {P : Program} {w : World} {ops : Array Oper} {rest : List Oper} {o : Oper} {a : Act} {Q : Exit → Act → World → Prop} (hgd : o.guard = none) (ty : TypeId) (x : Operand) (ho : o.op = .load ty x) (g off : Nat) (hx : a.eval x = .pointer (some ⟨g, off, none⟩))
    (m : Nat) (hty : RowTy P ty m) (X : Array Value) (hm : X.size = m) (hX : ∀ j u, X[j]? = some u → w.cell? ⟨g, off + j, none⟩ = some u) (h : wpList P ops Q rest (a.put o.dst (.agg X)) w) : wpList P ops Q (o :: rest) a w := by
  obtain ⟨d, hu, hd, hi⟩ := hty.ex
  refine wpList_plain hgd fun K hK => ?_
  have hl : (loadCells ⟨g, off, none⟩ X.toList.length).run P w = .ok X.toList.toArray w :=
    run_loadCells_list (P := P) w ⟨g, off, none⟩ X.toList (fun j u hu => by rw [addr_at]; exact hX j u (by simpa using hu))
  rw [Array.length_toList, hm] at hl
  simp only [Array.toArray_toList] at hl
  have hrun : (loadVar ty ⟨g, off, none⟩).run P w = .ok (.agg X) w := by simp [loadVar, Sem.run_bind, run_isAgg hu hd, Go.Bul.run_sizeOf hi, hl]
  unfold Oper.wp execOp
  simp only [ho, hx, Instr.loadAt, Instr.sureAddr, Sem.run_bind, Sem.run_pure, Result.andThen_ok, hrun]
  exact hK _ _ h
section
variable {a0 a1 v : Value}
theorem set_2_0 : (#[a0, a1] : Array Value).setIfInBounds 0 v = #[v, a1] := rfl
theorem set_2_1 : (#[a0, a1] : Array Value).setIfInBounds 1 v = #[a0, v] := rfl
end
section
variable {a0 a1 a2 a3 v : Value}
theorem set_4_0 : (#[a0, a1, a2, a3] : Array Value).setIfInBounds 0 v = #[v, a1, a2, a3] := rfl
theorem set_4_1 : (#[a0, a1, a2, a3] : Array Value).setIfInBounds 1 v = #[a0, v, a2, a3] := rfl
theorem set_4_2 : (#[a0, a1, a2, a3] : Array Value).setIfInBounds 2 v = #[a0, a1, v, a3] := rfl
theorem set_4_3 : (#[a0, a1, a2, a3] : Array Value).setIfInBounds 3 v = #[a0, a1, a2, v] := rfl
end
section
variable {a0 a1 a2 a3 a4 a5 a6 a7 a8 a9 a10 a11 a12 v : Value}
theorem set_13_0 : (#[a0, a1, a2, a3, a4, a5, a6, a7, a8, a9, a10, a11, a12] : Array Value).setIfInBounds 0 v = #[v, a1, a2, a3, a4, a5, a6, a7, a8, a9, a10, a11, a12] := rfl
theorem set_13_1 : (#[a0, a1, a2, a3, a4, a5, a6, a7, a8, a9, a10, a11, a12] : Array Value).setIfInBounds 1 v = #[a0, v, a2, a3, a4, a5, a6, a7, a8, a9, a10, a11, a12] := rfl
theorem set_13_2 : (#[a0, a1, a2, a3, a4, a5, a6, a7, a8, a9, a10, a11, a12] : Array Value).setIfInBounds 2 v = #[a0, a1, v, a3, a4, a5, a6, a7, a8, a9, a10, a11, a12] := rfl
theorem set_13_3 : (#[a0, a1, a2, a3, a4, a5, a6, a7, a8, a9, a10, a11, a12] : Array Value).setIfInBounds 3 v = #[a0, a1, a2, v, a4, a5, a6, a7, a8, a9, a10, a11, a12] := rfl
theorem set_13_4 : (#[a0, a1, a2, a3, a4, a5, a6, a7, a8, a9, a10, a11, a12] : Array Value).setIfInBounds 4 v = #[a0, a1, a2, a3, v, a5, a6, a7, a8, a9, a10, a11, a12] := rfl
theorem set_13_5 : (#[a0, a1, a2, a3, a4, a5, a6, a7, a8, a9, a10, a11, a12] : Array Value).setIfInBounds 5 v = #[a0, a1, a2, a3, a4, v, a6, a7, a8, a9, a10, a11, a12] := rfl
theorem set_13_6 : (#[a0, a1, a2, a3, a4, a5, a6, a7, a8, a9, a10, a11, a12] : Array Value).setIfInBounds 6 v = #[a0, a1, a2, a3, a4, a5, v, a7, a8, a9, a10, a11, a12] := rfl
theorem set_13_7 : (#[a0, a1, a2, a3, a4, a5, a6, a7, a8, a9, a10, a11, a12] : Array Value).setIfInBounds 7 v = #[a0, a1, a2, a3, a4, a5, a6, v, a8, a9, a10, a11, a12] := rfl
theorem set_13_8 : (#[a0, a1, a2, a3, a4, a5, a6, a7, a8, a9, a10, a11, a12] : Array Value).setIfInBounds 8 v = #[a0, a1, a2, a3, a4, a5, a6, a7, v, a9, a10, a11, a12] := rfl
theorem set_13_9 : (#[a0, a1, a2, a3, a4, a5, a6, a7, a8, a9, a10, a11, a12] : Array Value).setIfInBounds 9 v = #[a0, a1, a2, a3, a4, a5, a6, a7, a8, v, a10, a11, a12] := rfl
theorem set_13_10 : (#[a0, a1, a2, a3, a4, a5, a6, a7, a8, a9, a10, a11, a12] : Array Value).setIfInBounds 10 v = #[a0, a1, a2, a3, a4, a5, a6, a7, a8, a9, v, a11, a12] := rfl
theorem set_13_11 : (#[a0, a1, a2, a3, a4, a5, a6, a7, a8, a9, a10, a11, a12] : Array Value).setIfInBounds 11 v = #[a0, a1, a2, a3, a4, a5, a6, a7, a8, a9, a10, v, a12] := rfl
theorem set_13_12 : (#[a0, a1, a2, a3, a4, a5, a6, a7, a8, a9, a10, a11, a12] : Array Value).setIfInBounds 12 v = #[a0, a1, a2, a3, a4, a5, a6, a7, a8, a9, a10, a11, v] := rfl
end
section
variable {a0 a1 a2 a3 a4 a5 a6 a7 a8 a9 a10 a11 a12 u0 u1 u2 u3 : Value}
theorem ext_13_0 : (#[a0, a1, a2, a3, a4, a5, a6, a7, a8, a9, a10, a11, a12] : Array Value).extract 0 (0 + 4) = #[a0, a1, a2, a3] := rfl
theorem ext_13_7 : (#[a0, a1, a2, a3, a4, a5, a6, a7, a8, a9, a10, a11, a12] : Array Value).extract 7 (7 + 3) = #[a7, a8, a9] := rfl
theorem ext_13_10 : (#[a0, a1, a2, a3, a4, a5, a6, a7, a8, a9, a10, a11, a12] : Array Value).extract 10 (10 + 3) = #[a10, a11, a12] := rfl
theorem ext_13_ends : (#[a0, a1, a2, a3, a4, a5, a6, a7, a8, a9, a10, a11, a12] : Array Value).extract 7 (7 + 6) = #[a7, a8, a9, a10, a11, a12] := rfl
theorem spl_13_0 : (splice (#[a0, a1, a2, a3, a4, a5, a6, a7, a8, a9, a10, a11, a12] : Array Value).toList 0 (#[u0, u1, u2, u3] : Array Value).toList).toArray = #[u0, u1, u2, u3, a4, a5, a6, a7, a8, a9, a10, a11, a12] := rfl
theorem spl_13_7 : (splice (#[a0, a1, a2, a3, a4, a5, a6, a7, a8, a9, a10, a11, a12] : Array Value).toList 7 (#[u0, u1, u2] : Array Value).toList).toArray = #[a0, a1, a2, a3, a4, a5, a6, u0, u1, u2, a10, a11, a12] := rfl
theorem spl_13_10 : (splice (#[a0, a1, a2, a3, a4, a5, a6, a7, a8, a9, a10, a11, a12] : Array Value).toList 10 (#[u0, u1, u2] : Array Value).toList).toArray = #[a0, a1, a2, a3, a4, a5, a6, a7, a8, a9, u0, u1, u2] := rfl
theorem ext_6_0 : (#[a0, a1, a2, a3, a4, a5] : Array Value).extract 0 (0 + 3) = #[a0, a1, a2] := rfl
theorem ext_6_3 : (#[a0, a1, a2, a3, a4, a5] : Array Value).extract 3 (3 + 3) = #[a3, a4, a5] := rfl
end
end Go.Thg
namespace Go.Proofs.Ytenflgbaibjeoaa
open Go Go.RowKit Go.Bul Go.Thg Go.Lin
theorem row_cfg : RowTy Try.prog 27 4 := ⟨⟨_, Try.underlying27, rfl, by kernel_rfl⟩⟩
theorem row_win : RowTy Try.prog 24 2 := ⟨⟨_, Try.underlying24, rfl, by kernel_rfl⟩⟩
theorem row_line : RowTy Try.prog 88 13 := ⟨⟨_, Try.underlying88, rfl, by kernel_rfl⟩⟩
theorem row_end : RowTy Try.prog 85 3 := ⟨⟨_, Try.underlying85, rfl, by kernel_rfl⟩⟩
theorem row_ends : RowTy Try.prog 86 6 := ⟨⟨_, Try.underlying86, rfl, by kernel_rfl⟩⟩
theorem row_pkt : RowTy Try.prog 99 2 := ⟨⟨_, Try.underlying99, rfl, by kernel_rfl⟩⟩
theorem row_C : RowTy Try.prog 42 4 := ⟨⟨_, Try.underlying42, rfl, by kernel_rfl⟩⟩
theorem row_W : RowTy Try.prog 92 2 := ⟨⟨_, Try.underlying92, rfl, by kernel_rfl⟩⟩
theorem row_L : RowTy Try.prog 66 13 := ⟨⟨_, Try.underlying66, rfl, by kernel_rfl⟩⟩
theorem row_End : RowTy Try.prog 63 3 := ⟨⟨_, Try.underlying63, rfl, by kernel_rfl⟩⟩
theorem row_Ends : RowTy Try.prog 64 6 := ⟨⟨_, Try.underlying64, rfl, by kernel_rfl⟩⟩
theorem row_B : RowTy Try.prog 110 2 := ⟨⟨_, Try.underlying110, rfl, by kernel_rfl⟩⟩
theorem row_op : RowTy Try.prog 52 4 := ⟨⟨_, Try.underlying52, rfl, by kernel_rfl⟩⟩
theorem row_str2 : RowTy Try.prog 50 2 := ⟨⟨_, Try.underlying50, rfl, by kernel_rfl⟩⟩
theorem row_b3 : RowTy Try.prog 75 3 := ⟨⟨_, Try.underlying75, rfl, by kernel_rfl⟩⟩
theorem one_int : OneTy Try.prog 3 := ⟨⟨_, Try.underlying3, rfl, by kernel_rfl⟩⟩
theorem one_bool : OneTy Try.prog 4 := ⟨⟨_, Try.underlying4, rfl, by kernel_rfl⟩⟩
theorem one_u8 : OneTy Try.prog 5 := ⟨⟨_, Try.underlying5, rfl, by kernel_rfl⟩⟩
theorem one_str : OneTy Try.prog 9 := ⟨⟨_, Try.underlying9, rfl, by kernel_rfl⟩⟩
theorem one_sW : OneTy Try.prog 25 := ⟨⟨_, Try.underlying25, rfl, by kernel_rfl⟩⟩
theorem one_sRW : OneTy Try.prog 40 := ⟨⟨_, Try.underlying40, rfl, by kernel_rfl⟩⟩
theorem one_sB : OneTy Try.prog 61 := ⟨⟨_, Try.underlying61, rfl, by kernel_rfl⟩⟩
theorem one_bytes : OneTy Try.prog 82 := ⟨⟨_, Try.underlying82, rfl, by kernel_rfl⟩⟩
theorem one_sP : OneTy Try.prog 83 := ⟨⟨_, Try.underlying83, rfl, by kernel_rfl⟩⟩
theorem one_ptr : OneTy Try.prog 28 := ⟨⟨_, Try.underlying28, rfl, by kernel_rfl⟩⟩
theorem one_errno : OneTy Try.prog 29 := ⟨⟨_, Try.underlying29, rfl, by kernel_rfl⟩⟩
theorem one_side : OneTy Try.prog 33 := ⟨⟨_, Try.underlying33, rfl, by kernel_rfl⟩⟩
theorem zero_cfg : ZeroTy Try.prog 27 4 #[.int .i64 0, .int .i64 0, .int .i64 0, .slice none 0 0] := ⟨⟨.agg #[.int .i64 0, .int .i64 0, .int .i64 0, .slice none 0 0], by kernel_rfl, rfl, rfl⟩⟩
theorem zero_win : ZeroTy Try.prog 24 2 #[.int .i64 0, .int .i64 0] := ⟨⟨.agg #[.int .i64 0, .int .i64 0], by kernel_rfl, rfl, rfl⟩⟩
theorem zero_line : ZeroTy Try.prog 88 13 #[.int .i64 0, .int .i64 0, .int .i64 0, .slice none 0 0, .int .i64 0, .bool false, .int .i64 0, .slice none 0 0, .slice none 0 0, .slice none 0 0, .slice none 0 0, .slice none 0 0, .slice none 0 0] := ⟨⟨.agg #[.int .i64 0, .int .i64 0, .int .i64 0, .slice none 0 0, .int .i64 0, .bool false, .int .i64 0, .slice none 0 0, .slice none 0 0, .slice none 0 0, .slice none 0 0, .slice none 0 0, .slice none 0 0], by kernel_rfl, rfl, rfl⟩⟩
theorem zero_end : ZeroTy Try.prog 85 3 #[.slice none 0 0, .slice none 0 0, .slice none 0 0] := ⟨⟨.agg #[.slice none 0 0, .slice none 0 0, .slice none 0 0], by kernel_rfl, rfl, rfl⟩⟩
theorem zero_pkt : ZeroTy Try.prog 99 2 #[.slice none 0 0, .int .i64 0] := ⟨⟨.agg #[.slice none 0 0, .int .i64 0], by kernel_rfl, rfl, rfl⟩⟩
theorem zero_C : ZeroTy Try.prog 42 4 #[.int .i64 0, .int .i64 0, .int .i64 0, .slice none 0 0] := ⟨⟨.agg #[.int .i64 0, .int .i64 0, .int .i64 0, .slice none 0 0], by kernel_rfl, rfl, rfl⟩⟩
theorem zero_W : ZeroTy Try.prog 92 2 #[.int .i64 0, .int .i64 0] := ⟨⟨.agg #[.int .i64 0, .int .i64 0], by kernel_rfl, rfl, rfl⟩⟩
theorem zero_L : ZeroTy Try.prog 66 13 #[.int .i64 0, .int .i64 0, .int .i64 0, .slice none 0 0, .int .i64 0, .bool false, .int .i64 0, .string ⟨#[]⟩, .slice none 0 0, .string ⟨#[]⟩, .string ⟨#[]⟩, .slice none 0 0, .string ⟨#[]⟩] := ⟨⟨.agg #[.int .i64 0, .int .i64 0, .int .i64 0, .slice none 0 0, .int .i64 0, .bool false, .int .i64 0, .string ⟨#[]⟩, .slice none 0 0, .string ⟨#[]⟩, .string ⟨#[]⟩, .slice none 0 0, .string ⟨#[]⟩], by kernel_rfl, rfl, rfl⟩⟩
theorem zero_End : ZeroTy Try.prog 63 3 #[.string ⟨#[]⟩, .slice none 0 0, .string ⟨#[]⟩] := ⟨⟨.agg #[.string ⟨#[]⟩, .slice none 0 0, .string ⟨#[]⟩], by kernel_rfl, rfl, rfl⟩⟩
theorem zero_B : ZeroTy Try.prog 110 2 #[.int .u8 0, .int .i64 0] := ⟨⟨.agg #[.int .u8 0, .int .i64 0], by kernel_rfl, rfl, rfl⟩⟩
theorem zero_op : ZeroTy Try.prog 52 4 #[.int .u8 0, .int .i64 0, .string ⟨#[]⟩, .int .i64 0] := ⟨⟨.agg #[.int .u8 0, .int .i64 0, .string ⟨#[]⟩, .int .i64 0], by kernel_rfl, rfl, rfl⟩⟩
theorem zero_str2 : ZeroTy Try.prog 50 2 #[.string ⟨#[]⟩, .string ⟨#[]⟩] := ⟨⟨.agg #[.string ⟨#[]⟩, .string ⟨#[]⟩], by kernel_rfl, rfl, rfl⟩⟩
theorem zero_int : ZeroTy Try.prog 3 1 #[.int .i64 0] := ⟨⟨.int .i64 0, by kernel_rfl, rfl, rfl⟩⟩
theorem zero_str : ZeroTy Try.prog 9 1 #[.string ⟨#[]⟩] := ⟨⟨.string ⟨#[]⟩, by kernel_rfl, rfl, rfl⟩⟩
theorem info_win : (Try.prog.info? 24).map (fun i => (i.zero, i.size, i.bytes)) = some (some (.agg #[.int .i64 0, .int .i64 0]), 2, 16) := by kernel_rfl
theorem info_W : (Try.prog.info? 92).map (fun i => (i.zero, i.size, i.bytes)) = some (some (.agg #[.int .i64 0, .int .i64 0]), 2, 16) := by kernel_rfl
theorem info_pkt : (Try.prog.info? 99).map (fun i => (i.zero, i.size, i.bytes)) = some (some (.agg #[.slice none 0 0, .int .i64 0]), 2, 32) := by kernel_rfl
theorem info_B : (Try.prog.info? 110).map (fun i => (i.zero, i.size, i.bytes)) = some (some (.agg #[.int .u8 0, .int .i64 0]), 2, 16) := by kernel_rfl
theorem info_u8 : (Try.prog.info? 5).map (fun i => (i.zero, i.size, i.bytes)) = some (some (.int .u8 0), 1, 1) := by kernel_rfl
section
variable {w w0 : World} {G : List Nat} {L : List Ent} {R : List Thing} {ops : Array Oper} {rest : List Oper} {o : Oper} {a : Act} {Q : Exit → Act → World → Prop} {C : World → Prop} {ty : TypeId} {x y : Operand} {g i m n : Nat} {t : TypeId} {cs vs X : Array Value} {v : Value} {F : Array Value → List Ent}
/-! The laws of the walk, with all their conditions found by themselves. -/
theorem lc (hM : Mem G w0 L R w) (h : wpList Try.prog ops Q rest (a.put o.dst v) w) (hgd : o.guard = none := by rfl) (ho : o.op = .load ty x := by rfl) (hx : a.eval x = .pointer (some ⟨g, i, none⟩) := by rfl) (hL : ⟨g, t, n, cs⟩ ∈ L := by repeat (first | exact List.Mem.head _ | apply List.Mem.tail)) (hty : OneTy Try.prog ty := by first | exact one_int | exact one_bool | exact one_u8 | exact one_str | exact one_sW | exact one_sRW | exact one_sB | exact one_bytes | exact one_sP | exact one_ptr | exact one_errno | exact one_side) (hv : cs[i]? = some v := by rfl) : wpList Try.prog ops Q (o :: rest) a w :=
  wpList_mem_cell hM hgd ty x ho g i hx t n cs hL hty v hv h
theorem ll (hM : Mem G w0 L R w) (h : wpList Try.prog ops Q rest (a.put o.dst (.agg cs)) w) (hgd : o.guard = none := by rfl) (ho : o.op = .load ty x := by rfl) (hx : a.eval x = .pointer (some ⟨g, 0, none⟩) := by rfl) (hL : ⟨g, t, n, cs⟩ ∈ L := by repeat (first | exact List.Mem.head _ | apply List.Mem.tail)) (hty : RowTy Try.prog ty n := by first | exact row_cfg | exact row_win | exact row_line | exact row_end | exact row_ends | exact row_pkt | exact row_C | exact row_W | exact row_L | exact row_End | exact row_Ends | exact row_B | exact row_op | exact row_str2 | exact row_b3) : wpList Try.prog ops Q (o :: rest) a w :=
  wpList_mem_load hM hgd ty x ho g hx t n cs hL hty h
theorem lp (hM : Mem G w0 L R w) (h : wpList Try.prog ops Q rest (a.put o.dst (.agg X)) w) (hgd : o.guard = none := by rfl) (ho : o.op = .load ty x := by rfl) (hx : a.eval x = .pointer (some ⟨g, i, none⟩) := by rfl) (hL : ⟨g, t, n, cs⟩ ∈ L := by repeat (first | exact List.Mem.head _ | apply List.Mem.tail)) (hty : RowTy Try.prog ty m := by first | exact row_cfg | exact row_win | exact row_line | exact row_end | exact row_ends | exact row_pkt | exact row_C | exact row_W | exact row_L | exact row_End | exact row_Ends | exact row_B | exact row_op | exact row_str2 | exact row_b3) (hm : i + m ≤ n := by omega) (hX : cs.extract i (i + m) = X := by first | exact ext_13_0 | exact ext_13_7 | exact ext_13_10 | exact ext_6_0 | exact ext_6_3 | rfl) : wpList Try.prog ops Q (o :: rest) a w :=
  wpList_mem_part hM hgd ty x ho g i hx t n cs hL m hty hm X hX h
theorem ls (hM : Mem G w0 L R w) (h : ∀ w', Mem G w0 (F X) R w' → wpList Try.prog ops Q rest a w') (hgd : o.guard = none := by rfl) (ho : o.op = .store ty x y := by rfl) (hx : a.eval x = .pointer (some ⟨g, i, none⟩) := by rfl) (hy : a.eval y = v := by rfl) (hL : UpdL g t n cs L F := by repeat (first | exact UpdL.head _ _ _ _ _ | apply UpdL.tail)) (hty : OneTy Try.prog ty := by first | exact one_int | exact one_bool | exact one_u8 | exact one_str | exact one_sW | exact one_sRW | exact one_sB | exact one_bytes | exact one_sP | exact one_ptr | exact one_errno | exact one_side) (hi : i < n := by omega) (h1 : v.oneCell' = true := by rfl) (hdst : o.dst = none := by rfl) (hX : cs.setIfInBounds i v = X := by first | exact set_13_0 | exact set_13_1 | exact set_13_2 | exact set_13_3 | exact set_13_4 | exact set_13_5 | exact set_13_6 | exact set_13_7 | exact set_13_8 | exact set_13_9 | exact set_13_10 | exact set_13_11 | exact set_13_12 | exact set_4_0 | exact set_4_1 | exact set_4_2 | exact set_4_3 | exact set_2_0 | exact set_2_1 | rfl) : wpList Try.prog ops Q (o :: rest) a w :=
  wpList_mem_set_to hM hgd ty x y ho g i hx v hy t n cs F hL hty hi h1 hdst X hX h
theorem lw (hM : Mem G w0 L R w) (h : ∀ w', Mem G w0 (F vs) R w' → wpList Try.prog ops Q rest a w') (hgd : o.guard = none := by rfl) (ho : o.op = .store ty x y := by rfl) (hx : a.eval x = .pointer (some ⟨g, 0, none⟩) := by rfl) (hy : a.eval y = .agg vs := by rfl) (hL : UpdL g t n cs L F := by repeat (first | exact UpdL.head _ _ _ _ _ | apply UpdL.tail)) (hty : RowTy Try.prog ty n := by first | exact row_cfg | exact row_win | exact row_line | exact row_end | exact row_ends | exact row_pkt | exact row_C | exact row_W | exact row_L | exact row_End | exact row_Ends | exact row_B | exact row_op | exact row_str2 | exact row_b3) (hs : vs.size = n := by rfl) (h1 : ∀ v ∈ vs.toList, v.oneCell' = true := by simp [Value.oneCell']) (hdst : o.dst = none := by rfl) : wpList Try.prog ops Q (o :: rest) a w :=
  wpList_mem_store hM hgd ty x y ho g hx vs hy t n cs F hL hty hs h1 hdst h
theorem lt (hM : Mem G w0 L R w) (h : ∀ w', Mem G w0 (F X) R w' → wpList Try.prog ops Q rest a w') (hgd : o.guard = none := by rfl) (ho : o.op = .store ty x y := by rfl) (hx : a.eval x = .pointer (some ⟨g, i, none⟩) := by rfl) (hy : a.eval y = .agg vs := by rfl) (hL : UpdL g t n cs L F := by repeat (first | exact UpdL.head _ _ _ _ _ | apply UpdL.tail)) (hty : RowTy Try.prog ty m := by first | exact row_cfg | exact row_win | exact row_line | exact row_end | exact row_ends | exact row_pkt | exact row_C | exact row_W | exact row_L | exact row_End | exact row_Ends | exact row_B | exact row_op | exact row_str2 | exact row_b3) (hs : vs.size = m := by rfl) (hm : i + m ≤ n := by omega) (h1 : ∀ v ∈ vs.toList, v.oneCell' = true := by simp [Value.oneCell']) (hdst : o.dst = none := by rfl) (hX : (splice cs.toList i vs.toList).toArray = X := by first | exact spl_13_7 | exact spl_13_10 | exact spl_13_0 | rfl) : wpList Try.prog ops Q (o :: rest) a w :=
  wpList_mem_store_part hM hgd ty x y ho g i hx vs hy t n cs F hL m hty hs hm h1 hdst X hX h
theorem lz (hM : Mem G w0 L R w) (h : ∀ g w', Mem G w0 (⟨g, ty, n, cs⟩ :: L) R w' → wpList Try.prog ops Q rest (a.put o.dst (.pointer (some ⟨g, 0, none⟩))) w') (hgd : o.guard = none := by rfl) (ho : o.op = .alloc ty := by rfl) (hz : ZeroTy Try.prog ty n cs := by first | exact zero_cfg | exact zero_win | exact zero_line | exact zero_end | exact zero_pkt | exact zero_C | exact zero_W | exact zero_L | exact zero_End | exact zero_B | exact zero_op | exact zero_str2 | exact zero_int | exact zero_str) : wpList Try.prog ops Q (o :: rest) a w :=
  wpList_mem_zero hM hgd ty ho n cs hz h
theorem lb (hM : Mem G w0 L R w) (h : ∀ g w', Mem G w0 (⟨g, ty, n, cs⟩ :: L) R w' → wpList Try.prog ops Q rest (a.put o.dst (.pointer (some ⟨g, 0, none⟩))) w') (hgd : o.guard = none := by rfl) (ho : o.op = .box ty x := by rfl) (hx : a.eval x = .agg cs := by rfl) (hty : RowTy Try.prog ty n := by first | exact row_cfg | exact row_win | exact row_line | exact row_end | exact row_ends | exact row_pkt | exact row_C | exact row_W | exact row_L | exact row_End | exact row_Ends | exact row_B | exact row_op | exact row_str2 | exact row_b3) (hn : cs.size = n := by rfl) : wpList Try.prog ops Q (o :: rest) a w :=
  wpList_mem_box hM hgd ty x ho cs hx n hty hn h
theorem qc (hM : Mem G w0 L R w) (ho : o.op = .load ty x := by rfl) (hx : a.eval x = .pointer (some ⟨g, i, none⟩) := by rfl) (hL : ⟨g, t, n, cs⟩ ∈ L := by repeat (first | exact List.Mem.head _ | apply List.Mem.tail)) (hty : OneTy Try.prog ty := by first | exact one_int | exact one_bool | exact one_u8 | exact one_str | exact one_sW | exact one_sRW | exact one_sB | exact one_bytes | exact one_sP | exact one_ptr | exact one_errno | exact one_side) (hv : cs[i]? = some v := by rfl) : o.quietAt Try.prog a C w v :=
  quietAt_mem_cell hM ty x ho g i hx t n cs hL hty v hv
theorem ql (hM : Mem G w0 L R w) (ho : o.op = .load ty x := by rfl) (hx : a.eval x = .pointer (some ⟨g, 0, none⟩) := by rfl) (hL : ⟨g, t, n, cs⟩ ∈ L := by repeat (first | exact List.Mem.head _ | apply List.Mem.tail)) (hty : RowTy Try.prog ty n := by first | exact row_cfg | exact row_win | exact row_line | exact row_end | exact row_ends | exact row_pkt | exact row_C | exact row_W | exact row_L | exact row_End | exact row_Ends | exact row_B | exact row_op | exact row_str2 | exact row_b3) : o.quietAt Try.prog a C w (.agg cs) :=
  quietAt_mem_load hM ty x ho g hx t n cs hL hty
theorem qp (hM : Mem G w0 L R w) (ho : o.op = .load ty x := by rfl) (hx : a.eval x = .pointer (some ⟨g, i, none⟩) := by rfl) (hL : ⟨g, t, n, cs⟩ ∈ L := by repeat (first | exact List.Mem.head _ | apply List.Mem.tail)) (hty : RowTy Try.prog ty m := by first | exact row_cfg | exact row_win | exact row_line | exact row_end | exact row_ends | exact row_pkt | exact row_C | exact row_W | exact row_L | exact row_End | exact row_Ends | exact row_B | exact row_op | exact row_str2 | exact row_b3) (hm : i + m ≤ n := by omega) (hX : cs.extract i (i + m) = X := by first | exact ext_13_0 | exact ext_13_7 | exact ext_13_10 | exact ext_6_0 | exact ext_6_3 | rfl) : o.quietAt Try.prog a C w (.agg X) :=
  quietAt_mem_part hM ty x ho g i hx t n cs hL m hty hm X hX
/-- A struct read through a slice; a cell of it. -/
theorem lr (hX : ∀ j u, X[j]? = some u → w.cell? ⟨g, i + j, none⟩ = some u) (h : wpList Try.prog ops Q rest (a.put o.dst (.agg X)) w) (hgd : o.guard = none := by rfl) (ho : o.op = .load ty x := by rfl) (hx : a.eval x = .pointer (some ⟨g, i, none⟩) := by rfl) (hty : RowTy Try.prog ty m := by first | exact row_cfg | exact row_win | exact row_line | exact row_end | exact row_ends | exact row_pkt | exact row_C | exact row_W | exact row_L | exact row_End | exact row_Ends | exact row_B | exact row_op | exact row_str2 | exact row_b3) (hs : X.size = m := by rfl) : wpList Try.prog ops Q (o :: rest) a w :=
  wpList_reads_load hgd ty x ho g i hx m hty X hs hX h
theorem lo (hc : w.cell? ⟨g, i, none⟩ = some v) (h : wpList Try.prog ops Q rest (a.put o.dst v) w) (hgd : o.guard = none := by rfl) (ho : o.op = .load ty x := by rfl) (hx : a.eval x = .pointer (some ⟨g, i, none⟩) := by rfl) (hty : OneTy Try.prog ty := by first | exact one_int | exact one_bool | exact one_u8 | exact one_str | exact one_sW | exact one_sRW | exact one_sB | exact one_bytes | exact one_sP | exact one_ptr | exact one_errno | exact one_side) : wpList Try.prog ops Q (o :: rest) a w :=
  wpList_one_load hgd ty x ho g i hx hty v hc h
theorem qo (hc : w.cell? ⟨g, i, none⟩ = some v) (ho : o.op = .load ty x := by rfl) (hx : a.eval x = .pointer (some ⟨g, i, none⟩) := by rfl) (hty : OneTy Try.prog ty := by first | exact one_int | exact one_bool | exact one_u8 | exact one_str | exact one_sW | exact one_sRW | exact one_sB | exact one_bytes | exact one_sP | exact one_ptr | exact one_errno | exact one_side) : o.quietAt Try.prog a C w v :=
  quietAt_one ty x ho g i hx hty v hc
end
/-- Windows, as cells. -/
def winCells (ws : List Win) : List Value := ws.flatMap fun w => [.int .i64 w.1, .int .i64 w.2]
theorem winCells_length (ws : List Win) : (winCells ws).length = ws.length * 2 := by
  induction ws with
  | nil => rfl
  | cons w ws ih => simp only [winCells, List.flatMap_cons, List.length_append, List.length_cons, List.length_nil] at ih ⊢; omega
theorem winCells_one (ws : List Win) : ∀ u ∈ winCells ws, u.oneCell' = true := by
  intro u hu
  obtain ⟨w, _, hw⟩ := List.mem_flatMap.1 hu
  simp only [List.mem_cons, List.not_mem_nil, or_false] at hw
  rcases hw with rfl | rfl <;> rfl
theorem winCells_get : ∀ (ws : List Win) (i : Nat) (h : i < ws.length), (winCells ws)[i * 2]? = some (.int .i64 ws[i].1) ∧ (winCells ws)[i * 2 + 1]? = some (.int .i64 ws[i].2)
  | w :: ws, 0, _ => ⟨rfl, rfl⟩
  | w :: ws, i + 1, h => by
    have := winCells_get ws i (by simpa using h)
    have e : winCells (w :: ws) = .int .i64 w.1 :: .int .i64 w.2 :: winCells ws := rfl
    rw [e, show (i + 1) * 2 = i * 2 + 1 + 1 by omega, show i * 2 + 1 + 1 + 1 = (i * 2 + 1) + 1 + 1 by omega]
    simpa using this
/-- Windows that a slice reads as. -/
def Wins (w : World) (A : Option Addr) (n : Nat) (ws : List Win) : Prop := Reads w 2 A n (winCells ws)
theorem Wins.len {w : World} {A : Option Addr} {n : Nat} {ws : List Win} (h : Wins w A n ws) : n = ws.length := by
  have := h.1
  rw [winCells_length] at this
  omega
theorem Wins.keep {w w' : World} {A : Option Addr} {n : Nat} {ws : List Win} (h : Wins w A n ws) (hb : Below w.heap.size w w') : Wins w' A n ws := Reads.keep h hb
theorem Wins.cell {w : World} {g off n : Nat} {ws : List Win} (h : Wins w (some ⟨g, off, none⟩) n ws) (i : Nat) (hi : i < ws.length) :
    ∀ j u, (#[.int .i64 ws[i].1, .int .i64 ws[i].2] : Array Value)[j]? = some u → w.cell? ⟨g, off + i * 2 + j, none⟩ = some u := by
  have hl := h.len
  obtain ⟨g', off', he, _, h2⟩ := h.2 (by omega)
  injection he with he
  injection he with e1 e2
  subst e1 e2
  obtain ⟨c1, c2⟩ := winCells_get ws i hi
  intro j u hu
  match j, hu with
  | 0, hu => simp at hu; subst hu; exact h2 _ _ c1
  | 1, hu => simp at hu; subst hu; have := h2 _ _ c2; rwa [← Nat.add_assoc] at this
  | j + 2, hu => simp at hu
theorem Wins.c0 {w : World} {g off n : Nat} {ws : List Win} (h : Wins w (some ⟨g, off, none⟩) n ws) (i : Nat) (hi : i < ws.length) : w.cell? ⟨g, off + i * 2, none⟩ = some (.int .i64 ws[i].1) := h.cell i hi 0 _ rfl
theorem Wins.c1 {w : World} {g off n : Nat} {ws : List Win} (h : Wins w (some ⟨g, off, none⟩) n ws) (i : Nat) (hi : i < ws.length) : w.cell? ⟨g, off + i * 2 + 1, none⟩ = some (.int .i64 ws[i].2) := h.cell i hi 1 _ rfl
end Go.Proofs.Ytenflgbaibjeoaa
