/- Seat n: candidates, written out; the planner's cells. -/
import Derived.Test.YtpjphjokhccdaaaGreatNjf
import Derived.Test.YtpjphjokhccdaaaGreatNjg
import Derived.Test.YtpjphjokhccdaaaGreatNic
import Derived.Test.YtpjphjokhccdaaaGreatNh2
namespace Go.Lin
open Go Go.Bul
theorem splice_front (i j : Nat) (A B A' : List Value) (h : A'.length = A.length) : (splice (stC i (A ++ B)).toList 0 (Value.cells (.agg (stC j A'))).toList).toArray = stC j (A' ++ B) := by
  have h := splice_at [] (vals .u8 (idL i) ++ A) B (vals .u8 (idL j) ++ A') (by simp only [List.length_append, id_len, h])
  simp only [List.nil_append, List.length_nil, List.append_assoc] at h
  simp only [stC, Value.cells]
  rw [h]
end Go.Lin
namespace Go.Proofs.YtpjphjokhccdaaaGreat
open Go Go.RowKit Go.Bul Go.Thg Go.Lin Go.Maps
abbrev cz : List Value := [.int .i64 0, .int .i64 0, .slice none 0 0, .int .i64 0, .int .i64 0, .slice none 0 0, .bool false, .bool false, .bool false, .bool false]
set_option maxRecDepth 20000 in
theorem run_cand (j : Nat) (d a : Int) (gg : Nat) (b k : Int) (f o m : Bool) (w : World) : (Instr.build 113 #[(0, .agg (stC j (artTl d a gg b k))), (1, .bool f), (2, .bool o), (3, .bool m)]).run Tryz.prog w = .ok (.agg (stC j (candTl d a gg b k f o m))) w := by
  refine run_build_struct (places := #[(0, 39), (39, 1), (40, 1), (41, 1)]) (show Tryz.prog.underlying 113 = some (.struct (Tryz.prog.fieldsOf 113)) by kernel_rfl) (show (Tryz.prog.info? 113).map (·.zero) = some (some (.agg (stC 0 cz))) by kernel_rfl) (fun w => by kernel_rfl) ?_ w
  show Instr.fill _ (stC 0 cz) [(0, .agg (stC j (artTl d a gg b k))), (1, .bool f), (2, .bool o), (3, .bool m)] = _
  rw [fill_cons (off := 0) (size := 39) rfl (by exact stC_size _ _) (by rw [stC_size]; simp), show (splice (stC 0 cz).toList 0 (Value.cells (.agg (stC j (artTl d a gg b k)))).toList).toArray = stC j (artTl d a gg b k ++ [.bool false, .bool false, .bool false]) from splice_front 0 j [.int .i64 0, .int .i64 0, .slice none 0 0, .int .i64 0, .int .i64 0, .slice none 0 0, .bool false] [.bool false, .bool false, .bool false] (artTl d a gg b k) rfl]
  rw [fill_cons (off := 39) (size := 1) rfl rfl (by rw [stC_size]; simp), show (splice (stC j (artTl d a gg b k ++ [.bool false, .bool false, .bool false])).toList 39 (Value.cells (.bool f)).toList).toArray = stC j (artTl d a gg b k ++ [.bool f, .bool false, .bool false]) from splice_tl j (artTl d a gg b k) (.bool false) [.bool false, .bool false] (.bool f) rfl rfl]
  rw [fill_cons (off := 40) (size := 1) rfl rfl (by rw [stC_size]; simp), show (splice (stC j (artTl d a gg b k ++ [.bool f, .bool false, .bool false])).toList 40 (Value.cells (.bool o)).toList).toArray = stC j (artTl d a gg b k ++ [.bool f, .bool o, .bool false]) from splice_tl j (artTl d a gg b k ++ [.bool f]) (.bool false) [.bool false] (.bool o) rfl rfl]
  rw [fill_cons (off := 41) (size := 1) rfl rfl (by rw [stC_size]; simp), show (splice (stC j (artTl d a gg b k ++ [.bool f, .bool o, .bool false])).toList 41 (Value.cells (.bool m)).toList).toArray = stC j (artTl d a gg b k ++ [.bool f, .bool o, .bool m]) from splice_tl j (artTl d a gg b k ++ [.bool f, .bool o]) (.bool false) [] (.bool m) rfl rfl]
  rfl
theorem yb_cand {w : World} {o : Oper} {a : Act} {x0 x1 x2 x3 : Operand} {j : Nat} {d ar : Int} {gg : Nat} {b k : Int} {f p m : Bool} (ho : o.op = .build 113 #[(0, x0), (1, x1), (2, x2), (3, x3)] := by rfl) (h0 : a.eval x0 = .agg (stC j (artTl d ar gg b k)) := by rfl) (h1 : a.eval x1 = .bool f := by rfl) (h2 : a.eval x2 = .bool p := by rfl) (h3 : a.eval x3 = .bool m := by rfl) : (execOp a.eval o).run Tryz.prog w = .ok (.value (.agg (stC j (candTl d ar gg b k f p m)))) w := by
  unfold execOp
  simp only [ho, List.map_toArray, List.map_cons, List.map_nil, h0, h1, h2, h3, Sem.run_bind, run_cand, Result.andThen_ok, Sem.run_pure]
abbrev plC (A : Option Addr) (n c bh : Nat) (byt bud : Int) : Array Value := #[.slice A n c, .map (some bh), .int .i64 byt, .int .i64 bud]
theorem run_plan (bh : Nat) (bud : Int) (w : World) : (Instr.build 108 #[(1, .map (some bh)), (3, .int .i64 bud)]).run Tryz.prog w = .ok (.agg (plC none 0 0 bh 0 bud)) w := by kernel_rfl
/-- A candidate as this law makes it. -/
structure CandOk (R : List Thing) (x : El) : Prop where
  j : x.1 < 11
  ex : ∃ d a gg b k f o m, x.2 = candTl d a gg b k f o m ∧ (0 ≤ b ∧ b ≤ 100) ∧ grpT gg ∈ R
end Go.Proofs.YtpjphjokhccdaaaGreat
