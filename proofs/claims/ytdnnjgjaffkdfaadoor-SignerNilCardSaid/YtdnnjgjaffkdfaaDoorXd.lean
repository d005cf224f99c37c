/- Public and secret keys: equality, literals. Contracts at a signer that is nil. -/
import Derived.Test.YtdnnjgjaffkdfaaDoorWc
import Derived.Test.YtdnnjgjaffkdfaaDoorSgl
namespace Go.Bul
open Go Go.RowKit Go.Thg
theorem at_build_g {P : Program} {w : World} {ops : Array Oper} {rest : List Oper} {a : Act} {Q : Exit → Act → World → Prop} {dst : Option Tmp} {type : TypeId} {pos : String} {after : Array Edge} {t : TypeId} {ps : Array (Nat × Operand)} {g : Nat × Bool}
    (hw : Region.wanted ⟨dst, .build t ps, type, pos, after, some g⟩ (yielded ops a.tmps) = true) (h : wpList P ops Q (⟨dst, .build t ps, type, pos, after, none⟩ :: rest) a w) : wpList P ops Q (⟨dst, .build t ps, type, pos, after, some g⟩ :: rest) a w :=
  wpList_wanted hw h
theorem run_part_one {P : Program} {ty : TypeId} (hty : OneTy P ty) {cs : Array Value} {v : Value} {off : Nat} (hv : cs[off]? = some v) (w : World) : (part ty cs off).run P w = .ok v w := by
  obtain ⟨d, hu, hd, _⟩ := hty.ex
  simp only [part, Sem.run_bind, run_isAgg_no hu hd, Result.andThen_ok, Bool.false_eq_true, if_false, hv, Sem.run_pure]
theorem eqFields_cons {P : Program} {d : Nat} {xs ys : Array Value} {f : Field} {fs : List Field} {a b : Value} {r q : Bool} {w : World} (hn : f.name ≠ "_") (ha : (part f.type xs f.offset).run P w = .ok a w) (hb : (part f.type ys f.offset).run P w = .ok b w) (hr : (Op.equalIn d f.type a b).run P w = .ok r w)
    (hq : (Op.eqFields d xs ys fs).run P w = .ok q w) : (Op.eqFields d xs ys (f :: fs)).run P w = .ok (r && q) w := by
  simp only [Op.eqFields, hn, ne_eq, not_false_eq_true, if_true, Sem.run_bind, ha, hb, hr, Result.andThen_ok]
  cases r
  · simp [Sem.run_pure]
  · simpa using hq
theorem run_part_row {P : Program} {ty : TypeId} {m : Nat} (hty : RowTy P ty m) {cs X : Array Value} {off : Nat} (hX : cs.extract off (off + m) = X) (w : World) : (part ty cs off).run P w = .ok (.agg X) w := by
  obtain ⟨d, hu, hd, hi⟩ := hty.ex
  simp only [part, Sem.run_bind, run_isAgg hu hd, run_sizeOf hi, Result.andThen_ok, if_true, hX, Sem.run_pure]
end Go.Bul
namespace Go.Proofs.YtdnnjgjaffkdfaaDoor
open Go Go.RowKit Go.Bul Go.Thg Go.Lin
theorem eq_16d (d : Nat) (x y : Nd) (W : World) : (Op.equalIn (d + 2) 22 (.agg (ndC x)) (.agg (ndC y))).run Tryd.prog W = .ok (decide (x = y)) W := by
  have h := run_equalIn_nums W d x.val y.val Tryd.underlying22 Tryd.underlying5 (by kernel_rfl) x.len y.len
  have e : (x.val == y.val) = decide (x = y) := by
    by_cases hxy : x = y
    · subst hxy; simp
    · simp only [hxy, decide_false, beq_eq_false_iff_ne]
      exact fun h => hxy (Nd.ext' h)
  rw [e] at h
  exact h
theorem eq_aut (x y : Nd) (W : World) : (Op.equalIn 10000 50 (.agg (ndC x)) (.agg (ndC y))).run Tryd.prog W = .ok (decide (x = y)) W := by
  have h := run_equalIn_nums W 9998 x.val y.val Tryd.underlying50 Tryd.underlying5 (by kernel_rfl) x.len y.len
  have e : (x.val == y.val) = decide (x = y) := by
    by_cases hxy : x = y
    · subst hxy; simp
    · simp only [hxy, decide_false, beq_eq_false_iff_ne]
      exact fun h => hxy (Nd.ext' h)
  rw [e] at h
  exact h
theorem eq_pub (h h' : Int) (r r' : Nd) (W : World) :
    (Op.equalIn 10000 30 (.agg (pubC h r)) (.agg (pubC h' r'))).run Tryd.prog W = .ok (h == h' && decide (r = r')) W := by
  have eI : ∀ (a b : Int), (Op.equalIn 9999 3 (.int .i64 a) (.int .i64 b)).run Tryd.prog W = .ok (a == b) W := fun a b => run_equalIn_int W 9998 3 .i64 .i64 a b Tryd.underlying3
  rw [run_equalIn_struct W 9999 30 _ _ (by kernel_rfl) (by kernel_rfl)]
  simp only [Program.fieldsOf, Tryd.underlying30]
  rw [show (h == h' && decide (r = r')) = (h == h' && (decide (r = r') && true)) by simp]
  exact eqFields_cons (by decide) (run_part_one (P := Tryd.prog) one_int (pubC_0 h r) W) (run_part_one (P := Tryd.prog) one_int (pubC_0 h' r') W) (eI _ _)
    (eqFields_cons (by decide) (run_part_row (P := Tryd.prog) row_a16 (pubC_r h r) W) (run_part_row (P := Tryd.prog) row_a16 (pubC_r h' r') W) (eq_16d 9997 r r' W) (by simp [Op.eqFields, Sem.run_pure]))
theorem run_pubh (h : Int) (w : World) : (Instr.build 30 #[(0, .int .i64 h)]).run Tryd.prog w = .ok (.agg (pubC h nd0)) w := by
  refine run_build_struct (places := #[(0, 1), (1, 16)]) (show Tryd.prog.underlying 30 = some (.struct (Tryd.prog.fieldsOf 30)) by kernel_rfl) (show (Tryd.prog.info? 30).map (·.zero) = some (some (.agg (pubC 0 nd0))) by kernel_rfl) (fun w => by kernel_rfl) ?_ w
  show Instr.fill _ (pubC 0 nd0) [(0, .int .i64 h)] = _
  rw [fill_cons (size := 1) rfl rfl (by rw [pubC_size]; omega)]
  rfl
theorem run_sec (s : Sd) (h : Int) (w : World) : (Instr.build 48 #[(0, .agg (cellsOf .u8 s.val)), (1, .int .i64 h)]).run Tryd.prog w = .ok (.agg (secC s h)) w := by
  refine run_build_struct (places := #[(0, 32), (32, 1)]) (show Tryd.prog.underlying 48 = some (.struct (Tryd.prog.fieldsOf 48)) by kernel_rfl) (show (Tryd.prog.info? 48).map (·.zero) = some (some (.agg (secC sd0 0))) by kernel_rfl) (fun w => by kernel_rfl) ?_ w
  have e0 := sd_len sd0
  have e1 := sd_len s
  show Instr.fill _ (secC sd0 0) [(0, .agg (cellsOf .u8 s.val)), (1, .int .i64 h)] = _
  rw [fill_cons (size := 32) rfl (by simp [Value.cells, s.len]) (by rw [secC_size]; omega)]
  have e2 : (splice (secC sd0 0).toList 0 (Value.cells (.agg (cellsOf .u8 s.val))).toList).toArray = secC s 0 := by
    have h := splice_at [] (vals .u8 sd0.val) [Value.int .i64 0] (vals .u8 s.val) (by rw [e0, e1])
    simp only [List.nil_append, List.length_nil] at h
    exact congrArg List.toArray h
  rw [e2, fill_cons (size := 1) rfl rfl (by rw [secC_size]; omega)]
  have e3 : (splice (secC s 0).toList 32 (Value.cells (.int .i64 h)).toList).toArray = secC s h := by
    have h := splice_at (vals .u8 s.val) [Value.int .i64 0] [] [Value.int .i64 h] rfl
    simp only [e1, List.append_nil] at h
    exact congrArg List.toArray h
  rw [e3]
  rfl
theorem run_sech (h : Int) (w : World) : (Instr.build 48 #[(1, .int .i64 h)]).run Tryd.prog w = .ok (.agg (secC sd0 h)) w := by
  refine run_build_struct (places := #[(0, 32), (32, 1)]) (show Tryd.prog.underlying 48 = some (.struct (Tryd.prog.fieldsOf 48)) by kernel_rfl) (show (Tryd.prog.info? 48).map (·.zero) = some (some (.agg (secC sd0 0))) by kernel_rfl) (fun w => by kernel_rfl) ?_ w
  have e1 := sd_len sd0
  show Instr.fill _ (secC sd0 0) [(1, .int .i64 h)] = _
  rw [fill_cons (size := 1) rfl rfl (by rw [secC_size]; omega)]
  have e3 : (splice (secC sd0 0).toList 32 (Value.cells (.int .i64 h)).toList).toArray = secC sd0 h := by
    have h := splice_at (vals .u8 sd0.val) [Value.int .i64 0] [] [Value.int .i64 h] rfl
    simp only [e1, List.append_nil] at h
    exact congrArg List.toArray h
  rw [e3]
  rfl
section
variable {w : World} {ops : Array Oper} {rest : List Oper} {o : Oper} {a : Act} {Q : Exit → Act → World → Prop} {x0 x1 : Operand} {h : Int} {s : Sd}
theorem lbpubh (hk : wpList Tryd.prog ops Q rest (a.put o.dst (.agg (pubC h nd0))) w) (hgd : o.guard = none := by rfl) (ho : o.op = .build 30 #[(0, x0)] := by rfl) (h0 : a.eval x0 = .int .i64 h := by rfl) : wpList Tryd.prog ops Q (o :: rest) a w :=
  wpList_build_run hgd _ _ ho _ (by simp only [List.map_toArray, List.map_cons, List.map_nil, h0]) _ (run_pubh h w) hk
theorem lbsec (hk : wpList Tryd.prog ops Q rest (a.put o.dst (.agg (secC s h))) w) (hgd : o.guard = none := by rfl) (ho : o.op = .build 48 #[(0, x0), (1, x1)] := by rfl) (h0 : a.eval x0 = .agg (cellsOf .u8 s.val) := by rfl) (hx : a.eval x1 = .int .i64 h := by rfl) : wpList Tryd.prog ops Q (o :: rest) a w :=
  wpList_build_run hgd _ _ ho _ (by simp only [List.map_toArray, List.map_cons, List.map_nil, h0, hx]) _ (run_sec s h w) hk
theorem lbsech (hk : wpList Tryd.prog ops Q rest (a.put o.dst (.agg (secC sd0 h))) w) (hgd : o.guard = none := by rfl) (ho : o.op = .build 48 #[(1, x0)] := by rfl) (h0 : a.eval x0 = .int .i64 h := by rfl) : wpList Tryd.prog ops Q (o :: rest) a w :=
  wpList_build_run hgd _ _ ho _ (by simp only [List.map_toArray, List.map_cons, List.map_nil, h0]) _ (run_sech h w) hk
end
end Go.Proofs.YtdnnjgjaffkdfaaDoor
namespace Go.Proofs.YtdnnjgjaffkdfaaDoor
open Go Go.RowKit Go.Bul Go.Thg Go.Lin
set_option maxRecDepth 20000 in
set_option maxHeartbeats 1000000 in
theorem nsign_any (d : Nd) (w : World) : Calls Tryd.prog 34 #[.pointer none, .agg (ndC d)] w fun e w' => e = .returned (.tuple #[.agg (sigC 0 ch0 none 0 0), .int .i64 1]) ∧ Below w.heap.size w w' := by
  have hM := Mem.start [] w
  go_enter Tryd.func34, Tryd.ntmps34
  go_wp2_with (first | ((with_reducible refine at_box ?_); refine slb hM ?_ (hty := row_a16) (hn := ndC_size _); clear hM; intro g3 w1 hM) | ((with_reducible refine at_alloc ?_); refine slz hM ?_ (hz := zero_sgn); clear hM; intro g4 w1 hM) | ((with_reducible refine at_build ?_); refine lbsgn0 ?_) | ((with_reducible refine at_store ?_); refine slw hM ?_ (hs := sigC_size _ _ _ _ _) (h1 := sigC_one _ _ _ _ _) (hty := row_sgn); clear hM; intro wx hM))
  exact bodyPost_ret (results_mem_cell_tmp hM rfl (by rfl) (by repeat (first | exact List.Mem.head _ | apply List.Mem.tail)) row_sgn (by rfl)) rfl ⟨rfl, hM.below⟩
set_option maxRecDepth 20000 in
set_option maxHeartbeats 1000000 in
theorem nlast_any (d : Nd) (w : World) : Calls Tryd.prog 35 #[.pointer none, .agg (ndC d)] w fun e w' => e = .returned (.tuple #[.agg (sigC 0 ch0 none 0 0), .int .i64 1]) ∧ Below w.heap.size w w' := by
  have hM := Mem.start [] w
  go_enter Tryd.func35, Tryd.ntmps35
  go_wp2_with (first | ((with_reducible refine at_box ?_); refine slb hM ?_ (hty := row_a16) (hn := ndC_size _); clear hM; intro g3 w1 hM) | ((with_reducible refine at_alloc ?_); refine slz hM ?_ (hz := zero_sgn); clear hM; intro g4 w1 hM) | ((with_reducible refine at_build ?_); refine lbsgn0 ?_) | ((with_reducible refine at_store ?_); refine slw hM ?_ (hs := sigC_size _ _ _ _ _) (h1 := sigC_one _ _ _ _ _) (hty := row_sgn); clear hM; intro wx hM))
  exact bodyPost_ret (results_mem_cell_tmp hM rfl (by rfl) (by repeat (first | exact List.Mem.head _ | apply List.Mem.tail)) row_sgn (by rfl)) rfl ⟨rfl, hM.below⟩
theorem nskip_any (z : Int) (w : World) : Calls Tryd.prog 36 #[.pointer none, .int .i64 z] w fun e w' => e = .returned (.int .i64 1) ∧ w = w' := by
  go_enter Tryd.func36, Tryd.ntmps36
  go_wp2_with fail
  go_ret
  exact ⟨rfl, rfl⟩
theorem nnext_any (w : World) : Calls Tryd.prog 32 #[.pointer none] w fun e w' => e = .returned (.int .i64 0) ∧ w = w' := by
  go_enter Tryd.func32, Tryd.ntmps32
  go_wp2_with fail
  go_ret
  exact ⟨rfl, rfl⟩
theorem nleft_any (w : World) : Calls Tryd.prog 33 #[.pointer none] w fun e w' => e = .returned (.int .i64 0) ∧ w = w' := by
  go_enter Tryd.func33, Tryd.ntmps33
  go_wp2_with fail
  go_ret
  exact ⟨rfl, rfl⟩
set_option maxRecDepth 20000 in
theorem npub_any (w : World) : Calls Tryd.prog 31 #[.pointer none] w fun e w' => e = .returned (.agg (pubC 0 nd0)) ∧ Below w.heap.size w w' := by
  have hM := Mem.start [] w
  go_enter Tryd.func31, Tryd.ntmps31
  go_wp2_with (first | ((with_reducible refine at_alloc ?_); refine slz hM ?_ (hz := zero_pub); clear hM; intro g4 w1 hM) | ((with_reducible refine at_build ?_); refine lbpub0 ?_) | ((with_reducible refine at_store ?_); refine slw hM ?_ (hs := pubC_size _ _) (h1 := pubC_one _ _) (hty := row_pub); clear hM; intro wx hM))
  exact bodyPost_ret (results_mem_cell hM rfl (by rfl) (by repeat (first | exact List.Mem.head _ | apply List.Mem.tail)) row_pub) rfl ⟨rfl, hM.below⟩
end Go.Proofs.YtdnnjgjaffkdfaaDoor
