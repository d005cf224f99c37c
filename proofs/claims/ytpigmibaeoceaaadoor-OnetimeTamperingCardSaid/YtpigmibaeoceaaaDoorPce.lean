/- Pieces of 16 bytes in a block: read, written; arrays of arrays by index. -/
import Derived.Test.YtpigmibaeoceaaaDoorHeap
import Derived.Test.YtpigmibaeoceaaaDoorZf
namespace Go.Bul
open Go Go.RowKit
def putPiece (E : List Nat) (i : Nat) (v : List Nat) : List Nat := E.take (16 * i) ++ (v ++ E.drop (16 * i + 16))
theorem pieces_length_lt {f : Nat → List Nat} : ∀ n, (∀ i, i < n → (f i).length = 16) → (pieces f n).length = 16 * n
  | 0, _ => rfl
  | n + 1, hf => by rw [pieces_succ, List.length_append, pieces_length_lt n (fun i hi => hf i (by omega)), hf n (by omega)]; omega
theorem bytes_pieces_lt {f : Nat → List Nat} : ∀ n, (∀ i, i < n → Bytes (f i)) → Bytes (pieces f n)
  | 0, _ => Bytes.nil
  | n + 1, hf => by rw [pieces_succ]; exact (bytes_pieces_lt n fun i hi => hf i (by omega)).append (hf n (by omega))
theorem putPiece_pieces {f : Nat → List Nat} (n : Nat) (hf : ∀ i, i < n → (f i).length = 16) (k : Nat) (hk : k < n) : putPiece (pieces f k ++ zeros (16 * n - 16 * k)) k (f k) = pieces f (k + 1) ++ zeros (16 * n - 16 * (k + 1)) := by
  have hl := pieces_length_lt k fun i hi => hf i (by omega)
  unfold putPiece
  rw [List.take_append_of_le_length (by omega), List.take_of_length_le (by omega), List.drop_append, List.drop_of_length_le (by omega), hl, pieces_succ, List.nil_append, List.append_assoc]
  congr 2
  simp only [zeros, List.drop_replicate]
  congr 1
  omega
theorem cells_piece (k : IntKind) (E : List Nat) (i off : Nat) (h : off = 16 * i) : (cellsOf k E).extract off (off + 16) = cellsOf k (piece E i) := by
  subst h
  apply Array.ext'
  simp [cellsOf, vals, piece, List.extract_eq_take_drop]
theorem splice_piece (k : IntKind) (E v : List Nat) (i off : Nat) (h : off = 16 * i) (hv : v.length = 16) : (splice (cellsOf k E).toList off (cellsOf k v).toList).toArray = cellsOf k (putPiece E i v) := by
  subst h
  apply Array.ext'
  simp [cellsOf, vals, putPiece, splice, hv, List.map_take, List.map_drop]
section
variable {P : Program} {w w0 : World} {G : List Nat} {L : List Ent} {R : List OwnR} {ops : Array Oper} {rest : List Oper} {o : Oper} {a : Act} {Q : Exit → Act → World → Prop}
theorem wpList_mem_piece (hM : Mem G w0 L R w) (hgd : o.guard = none) (ty : TypeId) (x : Operand) (ho : o.op = .load ty x) (g i : Nat) (hx : a.eval x = .pointer (some ⟨g, i * 16, none⟩))
    (t : TypeId) (n : Nat) (k : IntKind) (E : List Nat) (hL : ⟨g, t, n, cellsOf k E⟩ ∈ L) (hty : RowTy P ty 16) (hm : i * 16 + 16 ≤ n)
    (h : wpList P ops Q rest (a.put o.dst (.agg (cellsOf k (piece E i)))) w) : wpList P ops Q (o :: rest) a w :=
  wpList_mem_part hM hgd ty x ho g _ hx t n _ hL 16 hty hm _ (cells_piece k E i _ (by omega)) h
theorem quietAt_mem_piece {C : World → Prop} (hM : Mem G w0 L R w) (ty : TypeId) (x : Operand) (ho : o.op = .load ty x) (g i : Nat) (hx : a.eval x = .pointer (some ⟨g, i * 16, none⟩))
    (t : TypeId) (n : Nat) (k : IntKind) (E : List Nat) (hL : ⟨g, t, n, cellsOf k E⟩ ∈ L) (hty : RowTy P ty 16) (hm : i * 16 + 16 ≤ n) : o.quietAt P a C w (.agg (cellsOf k (piece E i))) :=
  quietAt_mem_part hM ty x ho g _ hx t n _ hL 16 hty hm _ (cells_piece k E i _ (by omega))
theorem wpList_mem_put_piece (hM : Mem G w0 L R w) (hgd : o.guard = none) (ty : TypeId) (x y : Operand) (ho : o.op = .store ty x y) (g i : Nat) (hx : a.eval x = .pointer (some ⟨g, i * 16, none⟩))
    (k : IntKind) (v : List Nat) (hy : a.eval y = .agg (cellsOf k v)) (t : TypeId) (n : Nat) (E : List Nat) (F : Array Value → List Ent) (hL : UpdL g t n (cellsOf k E) L F) (hty : RowTy P ty 16) (hv : v.length = 16) (hm : i * 16 + 16 ≤ n)
    (hdst : o.dst = none) (h : ∀ w', Mem G w0 (F (cellsOf k (putPiece E i v))) R w' → wpList P ops Q rest a w') : wpList P ops Q (o :: rest) a w :=
  wpList_mem_store_part hM hgd ty x y ho g _ hx _ hy t n _ F hL 16 hty (by simp [hv]) hm (vals_one _ _) hdst _ (splice_piece k E v i _ (by omega) hv) h
/-- An element of an array of arrays of 16 bytes that is a value. -/
theorem run_index_piece {T e : TypeId} {k : IntKind} {n : Nat} (hT : P.underlying T = some (.array n e)) (hE : RowTy P e 16) (E : List Nat) (i : Nat) (hi : i < n) (w : World) :
    (Instr.index T (.agg (cellsOf k E)) (.int .i64 (i : Nat))).run P w = .ok (.agg (cellsOf k (piece E i))) w := by
  obtain ⟨d, hu, hd, hs⟩ := hE.ex
  have hc := cells_piece k E i (i * 16) (by omega)
  have hlt : (0 ≤ (i : Int) ∧ (i : Int) < n) := by omega
  simp only [Instr.index, asIntOf, Sem.run_bind, Sem.run_pure, Result.andThen_ok, run_underlying hT, hlt, and_self, if_true, run_sizeOf hs, Int.toNat_natCast, part, run_isAgg hu hd, hc]
end
end Go.Bul
