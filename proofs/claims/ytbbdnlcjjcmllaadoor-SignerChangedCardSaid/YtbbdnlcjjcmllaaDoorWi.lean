/- The reference: Half, Bytes, Author. Public and secret keys: equality, literals. -/
import Derived.Test.YtbbdnlcjjcmllaaDoorWf
import Derived.Test.YtbbdnlcjjcmllaaDoorVp
import Derived.Test.YtbbdnlcjjcmllaaDoorWl
namespace Go.Proofs.YtbbdnlcjjcmllaaDoor
section
open Go Go.RowKit Go.Bul
end
open Go Go.RowKit Go.Bul Go.Thg Go.Lin
theorem low_any (x : Nat) (w : World) (hx : x < 256) : Calls Tryd.prog 6 #[.int .u8 (x : Nat)] w fun e w' => e = .returned (.int .i64 ((1 + x % 3 : Nat) : Nat)) ∧ w = w' := by
  go_enter Tryd.func6, Tryd.ntmps6
  have e2 : ((1 + x % 3 : Nat) : Int) = 1 + (x : Int) % 3 := by omega
  have h0 : (0 : Int) ≤ (x : Int) := by omega
  rw [e2]
  go_wp2
  go_ret
  exact ⟨by go_num, rfl⟩
end Go.Proofs.YtbbdnlcjjcmllaaDoor
namespace Go.Bul
open Go Go.RowKit Go.Thg
theorem at_build_g {P : Program} {w : World} {ops : Array Oper} {rest : List Oper} {a : Act} {Q : Exit → Act → World → Prop} {dst : Option Tmp} {type : TypeId} {pos : String} {after : Array Edge} {t : TypeId} {ps : Array (Nat × Operand)} {g : Nat × Bool}
    (hw : Region.wanted ⟨dst, .build t ps, type, pos, after, some g⟩ (yielded ops a.tmps) = true) (h : wpList P ops Q (⟨dst, .build t ps, type, pos, after, none⟩ :: rest) a w) : wpList P ops Q (⟨dst, .build t ps, type, pos, after, some g⟩ :: rest) a w :=
  wpList_wanted hw h
theorem run_part_one {P : Program} {ty : TypeId} (hty : OneTy P ty) {cs : Array Value} {v : Value} {off : Nat} (hv : cs[off]? = some v) (w : World) : (part ty cs off).run P w = .ok v w := by
  obtain ⟨d, hu, hd, _⟩ := hty.ex
  simp only [part, Sem.run_bind, run_isAgg_no hu hd, Result.andThen_ok, Bool.false_eq_true, if_false, hv, Sem.run_pure]
theorem eqFields_cons {P : Program} {d : Nat} {xs ys : Array Value} {f : Field} {fs : List Field} {a b : Value} {r q : Bool} {w : World} (hn : f.name ≠ "_") (ha : (part f.type xs f.offset).run P w = .ok a w) (hb : (part f.type ys f.offset).run P w = .ok b w) (hr : (Op.equalIn d f.type a b).run P w = .ok r w)
    (hq : (Op.eqFields d xs ys fs).run P w = .ok q w) : (Op.eqFields d xs ys (f :: fs)).run P w = .ok (r && q) w := by
  simp only [Op.eqFields, hn, ne_eq, not_false_eq_true, if_true, Sem.run_bind, ha, hb, hr, Result.andThen_ok]
  cases r
  · simp [Sem.run_pure]
  · simpa using hq
theorem run_part_row {P : Program} {ty : TypeId} {m : Nat} (hty : RowTy P ty m) {cs X : Array Value} {off : Nat} (hX : cs.extract off (off + m) = X) (w : World) : (part ty cs off).run P w = .ok (.agg X) w := by
  obtain ⟨d, hu, hd, hi⟩ := hty.ex
  simp only [part, Sem.run_bind, run_isAgg hu hd, run_sizeOf hi, Result.andThen_ok, if_true, hX, Sem.run_pure]
end Go.Bul
namespace Go.Proofs.YtbbdnlcjjcmllaaDoor
open Go Go.RowKit Go.Bul Go.Thg Go.Lin
theorem run_sec (s : Sd) (h : Int) (w : World) : (Instr.build 28 #[(0, .agg (cellsOf .u8 s.val)), (1, .int .i64 h)]).run Tryd.prog w = .ok (.agg (secC s h)) w := by
  refine run_build_struct (places := #[(0, 32), (32, 1)]) (show Tryd.prog.underlying 28 = some (.struct (Tryd.prog.fieldsOf 28)) by kernel_rfl) (show (Tryd.prog.info? 28).map (·.zero) = some (some (.agg (secC sd0 0))) by kernel_rfl) (fun w => by kernel_rfl) ?_ w
  have e0 := sd_len sd0
  have e1 := sd_len s
  show Instr.fill _ (secC sd0 0) [(0, .agg (cellsOf .u8 s.val)), (1, .int .i64 h)] = _
  rw [fill_cons (size := 32) rfl (by simp [Value.cells, s.len]) (by rw [secC_size]; omega)]
  have e2 : (splice (secC sd0 0).toList 0 (Value.cells (.agg (cellsOf .u8 s.val))).toList).toArray = secC s 0 := by
    have h := splice_at [] (vals .u8 sd0.val) [Value.int .i64 0] (vals .u8 s.val) (by rw [e0, e1])
    simp only [List.nil_append, List.length_nil] at h
    exact congrArg List.toArray h
  rw [e2, fill_cons (size := 1) rfl rfl (by rw [secC_size]; omega)]
  have e3 : (splice (secC s 0).toList 32 (Value.cells (.int .i64 h)).toList).toArray = secC s h := by
    have h := splice_at (vals .u8 s.val) [Value.int .i64 0] [] [Value.int .i64 h] rfl
    simp only [e1, List.append_nil] at h
    exact congrArg List.toArray h
  rw [e3]
  rfl
section
variable {w : World} {ops : Array Oper} {rest : List Oper} {o : Oper} {a : Act} {Q : Exit → Act → World → Prop} {x0 x1 : Operand} {h : Int} {s : Sd}
theorem lbsec (hk : wpList Tryd.prog ops Q rest (a.put o.dst (.agg (secC s h))) w) (hgd : o.guard = none := by rfl) (ho : o.op = .build 28 #[(0, x0), (1, x1)] := by rfl) (h0 : a.eval x0 = .agg (cellsOf .u8 s.val) := by rfl) (hx : a.eval x1 = .int .i64 h := by rfl) : wpList Tryd.prog ops Q (o :: rest) a w :=
  wpList_build_run hgd _ _ ho _ (by simp only [List.map_toArray, List.map_cons, List.map_nil, h0, hx]) _ (run_sec s h w) hk
end
end Go.Proofs.YtbbdnlcjjcmllaaDoor
