/- Contracts of few, Own, Back: signatures and the reference's. -/
import Derived.Test.YtdnnjgjaffkdfaaDoorSbj
namespace Go.Proofs.YtdnnjgjaffkdfaaDoor
open Go Go.RowKit Go.Bul Go.Thg Go.Lin
theorem sgn_fill3 (leaf : Int) (ch : Ch) (A : Option Addr) (n c : Nat) : Instr.fill (sgPlaces[·]?) (sigC 0 ch0 none 0 0) [(0, .int .i64 leaf), (1, .agg (chC ch)), (2, .slice A n c)] = some (sigC leaf ch A n c) := by
  have e0 := ch_len ch0
  have e1 := ch_len ch
  rw [fill_cons (size := 1) rfl rfl (by rw [sigC_size]; omega)]
  have e2 : (splice (sigC 0 ch0 none 0 0).toList 0 (Value.cells (.int .i64 leaf)).toList).toArray = sigC leaf ch0 none 0 0 := rfl
  rw [e2, fill_cons (size := 560) rfl (by exact chC_size _) (by rw [sigC_size]; omega)]
  have e3 : (splice (sigC leaf ch0 none 0 0).toList 1 (Value.cells (.agg (chC ch))).toList).toArray = sigC leaf ch none 0 0 :=
    congrArg List.toArray (splice_mid (.int .i64 leaf) (vals .u8 ch0.val) [Value.slice none 0 0] (vals .u8 ch.val) (by omega))
  rw [e3, fill_cons (size := 1) rfl rfl (by rw [sigC_size]; omega)]
  have e4 : (splice (sigC leaf ch none 0 0).toList 561 (Value.cells (.slice A n c)).toList).toArray = sigC leaf ch A n c := by
    have h := splice_at (.int .i64 leaf :: vals .u8 ch.val) [.slice none 0 0] [] [.slice A n c] rfl
    simp only [List.length_cons, e1, List.append_nil, List.cons_append] at h
    exact congrArg List.toArray h
  rw [e4]
  rfl
set_option maxRecDepth 20000 in
theorem rsg_zero : (Tryd.prog.info? 26).map (·.zero) = some (some (.agg (sigC 0 ch0 none 0 0))) := by kernel_rfl
theorem rsg_struct : Tryd.prog.underlying 26 = some (.struct (Tryd.prog.fieldsOf 26)) := by kernel_rfl
theorem rsg_places (w : World) : (((Tryd.prog.fieldsOf 26).mapM fun f => do pure (f.offset, ← sizeOf f.type) : Sem (Array (Nat × Nat)))).run Tryd.prog w = .ok sgPlaces w := by kernel_rfl
theorem run_rsg3 (leaf : Int) (ch : Ch) (A : Option Addr) (n c : Nat) (w : World) : (Instr.build 26 #[(0, .int .i64 leaf), (1, .agg (chC ch)), (2, .slice A n c)]).run Tryd.prog w = .ok (.agg (sigC leaf ch A n c)) w :=
  run_build_struct rsg_struct rsg_zero rsg_places (sgn_fill3 leaf ch A n c) w
section
variable {w : World} {ops : Array Oper} {rest : List Oper} {o : Oper} {a : Act} {Q : Exit → Act → World → Prop} {x0 x1 x2 : Operand} {leaf : Int} {ch : Ch} {A : Option Addr} {n c : Nat}
theorem lbrsg3 (hk : wpList Tryd.prog ops Q rest (a.put o.dst (.agg (sigC leaf ch A n c))) w) (hgd : o.guard = none := by rfl) (ho : o.op = .build 26 #[(0, x0), (1, x1), (2, x2)] := by rfl) (h0 : a.eval x0 = .int .i64 leaf := by rfl) (h1 : a.eval x1 = .agg (chC ch) := by rfl) (h2 : a.eval x2 = .slice A n c := by rfl) : wpList Tryd.prog ops Q (o :: rest) a w :=
  wpList_build_run hgd _ _ ho _ (by simp only [List.map_toArray, List.map_cons, List.map_nil, h0, h1, h2]) _ (run_rsg3 leaf ch A n c w) hk
end
theorem run_16none (w : World) : (Instr.buildSlice 24 0 #[]).run Tryd.prog w = .ok (.slice (some ⟨w.heap.size, 0, none⟩) 0 0) (w.alloc (.cells #[] 22)) := by
  have h : (Tryd.prog.info? 22).map (·.size) = some 16 := by kernel_rfl
  cases hq : Tryd.prog.info? 22 with
  | none => rw [hq] at h; simp at h
  | some i =>
    rw [hq] at h
    simp [Instr.buildSlice, run_underlying Tryd.underlying24, sizeOf, typeInfo, hq, newRow, Instr.fill]
    have e : (Array.map (fun _ => (default : Value)) (Array.range 0)) = #[] := Array.eq_empty_of_size_eq_zero (by simp)
    rw [e]
theorem lb16n {w w0 : World} {G : List Nat} {L : List Ent} {R : List Thing} {ops : Array Oper} {rest : List Oper} {o : Oper} {a : Act} {Q : Exit → Act → World → Prop} (hM : Mem G w0 L R w) (h : ∀ g w', Mem G w0 L (p16T (.slice (some ⟨g, 0, none⟩) 0 0) [] :: R) w' → wpList Tryd.prog ops Q rest (a.put o.dst (.slice (some ⟨g, 0, none⟩) 0 0)) w')
    (hgd : o.guard = none := by rfl) (ho : o.op = .buildSlice 24 0 #[] := by rfl) : wpList Tryd.prog ops Q (o :: rest) a w := by
  refine wpList_plain hgd fun K hK => ?_
  unfold Oper.wp execOp
  simp only [ho, List.map_toArray, List.map_nil, Sem.run_bind, run_16none, Result.andThen_ok]
  exact hK _ _ (h _ _ ((hM.step ((Below.refl _ _).alloc (Nat.le_refl _) (.cells #[] 22))).newThing (hbecomes_zero _ (KeptBut.refl _ _))))
set_option maxRecDepth 20000 in
set_option maxHeartbeats 2000000 in
theorem lback_any (leaf : Int) (ch : Ch) (A : Option Addr) (n c : Nat) (path : List Nd) (w : World) (hr : NIn w A n path) (hn : n ≤ 1000000) :
    Calls Tryd.prog 20 #[.agg (sigC leaf ch A n c)] w fun e w' => ∃ B c', e = .returned (.agg (sigC leaf ch B n c')) ∧ Becomes [] w (p16T (.slice B n c') path) w' := by
  have hM := Mem.start [] w
  have HS := Lib.hid (sigC_size leaf ch A n c)
  have H0 := Lib.hid (sigC_0 leaf ch A n c)
  have HC := Lib.hid (sigC_c leaf ch A n c)
  have HP := Lib.hid (sigC_p leaf ch A n c)
  have HL := Lib.hid hr.len
  have HR := Lib.hid hr
  have h63 : ([] : List Nd).length + path.length ≤ 1000000000 := by rw [← hr.len]; simp; omega
  generalize sigC leaf ch A n c = X at HS H0 HC HP ⊢
  clear hr hn
  go_enter Tryd.func20, Tryd.ntmps20
  go_upto_region 1 with (first | ((with_reducible refine at_box ?_); refine slb hM ?_ (hty := row_sgn) (hn := HS.out); clear hM; intro g1 w1 hM) | ((with_reducible refine at_alloc ?_); refine slz hM ?_ (hz := zero_rsg); clear hM; intro g2 w1 hM))
  obtain ⟨g2, hg2⟩ := hM.name1
  obtain ⟨g1, hg1⟩ := (hM.subL (List.sublist_cons_self _ _)).name1
  subst hg2 hg1
  refine wp_region_allHM hM (HeldM [⟨g1, 31, 562, X⟩]) (by kernel_rfl) ?_
  clear hM
  intro wd hM
  have hS := HeldM.of (hM.subL (L' := [⟨g1, 31, 562, X⟩]) (List.sublist_cons_self _ _))
  refine wpAllH_takes [0, 2, 5, 1, 3, 6] (by kernel_rfl) (fun _ _ _ _ _ h => h) hS (by kernel_rfl) ?_
  simp only [pickOps, List.filterMap_cons, List.filterMap_nil, List.getElem?_cons_zero, List.getElem?_cons_succ]
  repeat ((with_reducible apply wpHeld_step); (· rfl); (· (intro w hSw; first | (go_simp; rfl) | ((obtain ⟨_, _, _, hM'⟩ := hSw; first | exact yields_load (C := fun _ => True) (sqc hM' (hv := H0.out)) rfl | exact yields_load (C := fun _ => True) (sqc hM' (hv := HP.out)) rfl | exact yields_load (C := fun _ => True) (sqp hM' (hX := HC.out) (hty := row_a560)) rfl)))); intro K hK; go_simp; (with_reducible refine hK _ ?_); clear hK K)
  refine wpHeld_nil ?_
  refine wpAllH_one 4 rfl (by kernel_rfl) ?_
  refine lb16n hM ?_
  clear hM hS
  intro g3 wz hM
  have hS := HeldM.of (hM.subL (L' := [⟨g1, 31, 562, X⟩]) (List.sublist_cons_self _ _))
  refine wpList_then ⟨hS, ?_⟩
  go_simp
  refine wpAllH_one 7 rfl (by kernel_rfl) ?_
  refine la16 ((HR.out.keep hM.below : Reads _ 16 _ _ (ndCells path)).src Tryd.underlying24 (ndCells_one _)) hM h63 ?_
  clear hM hS
  intro B N c' wy hN hM
  rw [List.nil_append] at hM hN
  obtain rfl : N = n := by have := hN.out; have := HL.out; omega
  have hS := HeldM.of (hM.subL (L' := [⟨g1, 31, 562, X⟩]) (List.sublist_cons_self _ _))
  refine wpList_then ⟨hS, ?_⟩
  go_simp
  refine wpAllH_one 8 rfl (by kernel_rfl) ?_
  refine lbrsg3 ?_
  refine wpList_then ⟨hS, ?_⟩
  go_simp
  refine wpAllH_one 9 rfl (by kernel_rfl) ?_
  refine slw hM ?_ (hs := sigC_size _ _ _ _ _) (h1 := sigC_one _ _ _ _ _) (hty := row_rsg)
  clear hM hS
  intro wx hM
  have hS := HeldM.of (hM.subL (L' := [⟨g1, 31, 562, X⟩]) (List.sublist_cons_self _ _))
  refine wpList_then ⟨hS, ?_⟩
  refine wpAllH_done (by kernel_rfl) ?_
  go_wp2_with fail
  have hb := hM.becomes (List.Mem.head _)
  exact bodyPost_ret (results_mem_cell hM rfl (by rfl) (by repeat (first | exact List.Mem.head _ | apply List.Mem.tail)) row_rsg) rfl ⟨B, c', rfl, hb⟩
end Go.Proofs.YtdnnjgjaffkdfaaDoor
