/- The contract of known. Contracts of few, Own, Back: signatures and the reference's. -/
import Derived.Test.YtbbdnlcjjcmllaaDoorWg
namespace Go.Proofs.YtbbdnlcjjcmllaaDoor
open Go Go.RowKit Go.Bul Go.Thg Go.Lin
section
variable {w : World} {ops : Array Oper} {rest : List Oper} {o : Oper} {a : Act} {Q : Exit → Act → World → Prop} {x0 : Operand}
theorem lbsec1 (hk : wpList Tryd.prog ops Q rest (a.put o.dst (.agg (secC sd0 1))) w) (hgd : o.guard = none := by rfl) (ho : o.op = .build 28 #[(1, x0)] := by rfl) (h0 : a.eval x0 = .int .i64 1 := by rfl) : wpList Tryd.prog ops Q (o :: rest) a w :=
  wpList_build_run hgd _ _ ho _ (by simp only [List.map_toArray, List.map_cons, List.map_nil, h0]) _ (run_sec1 w) hk
theorem lbd1 (hk : wpList Tryd.prog ops Q rest (a.put o.dst (.agg (ndC d1))) w) (hgd : o.guard = none := by rfl) (ho : o.op = .build 23 #[(0, x0)] := by rfl) (h0 : a.eval x0 = .int .u8 1 := by rfl) : wpList Tryd.prog ops Q (o :: rest) a w :=
  wpList_build_run hgd _ _ ho _ (by simp only [List.map_toArray, List.map_cons, List.map_nil, h0]) _ (run_d1 w) hk
theorem lbd2 (hk : wpList Tryd.prog ops Q rest (a.put o.dst (.agg (ndC d2))) w) (hgd : o.guard = none := by rfl) (ho : o.op = .build 23 #[(0, x0)] := by rfl) (h0 : a.eval x0 = .int .u8 2 := by rfl) : wpList Tryd.prog ops Q (o :: rest) a w :=
  wpList_build_run hgd _ _ ho _ (by simp only [List.map_toArray, List.map_cons, List.map_nil, h0]) _ (run_d2 w) hk
end
set_option maxRecDepth 20000 in
set_option maxHeartbeats 8000000 in
theorem known_any (w : World) (hT : Tab w) (hA : Alp w) : Calls Tryd.prog 5 #[] w fun e w' => e = .returned (.bool true) ∧ Below w.heap.size w w' := by
  have HT := Lib.hid hT
  have HA := Lib.hid hA
  have HN := Lib.hid (new_yes sd0 1 0 w (by decide) (by decide) (by decide) (by decide) hT)
  have r1 := run_d1
  have HSG := Lib.hid (fun (L : List Ent) (R : List Thing) (g : Nat) (A : Option Addr) (c : Nat) (w' : World) (hM : Mem [] w (⟨g, 90, 35, sgrC sd0 1 A 2 c 0⟩ :: L) R w') (hR : ndT (.slice A 2 c) (lvsN sd0 2) ∈ R) => gsign_yes sd0 1 A 2 c (lvsN sd0 2) 0 d1 hM hR (by decide) (by decide) (lvsN_length _ _) (by decide) hT)
  have HSU := Lib.hid (fun (L : List Ent) (R : List Thing) (g : Nat) (A : Option Addr) (c : Nat) (w' : World) (hM : Mem [] w (⟨g, 90, 35, sgrC sd0 1 A 2 c 1⟩ :: L) R w') => gsign_used sd0 1 A 2 c 1 d2 hM (by decide) (by decide))
  have HTX := Lib.hid (fun (B : Option Addr) (c : Nat) (w' : World) (hr : NIn w' B 1 (sibsF (lvsN sd0 2) 0 1)) (hb : Below w.heap.size w w') => gtext_yes 0 (sgCh sd0 0 d1) B 1 c (sibsF (lvsN sd0 2) 0 1) w' hr (by decide) (hA.keep hb))
  have HPB := Lib.hid (fun (L : List Ent) (R : List Thing) (g : Nat) (A : Option Addr) (c : Nat) (w' : World) (hM : Mem [] w (⟨g, 90, 35, sgrC sd0 1 A 2 c 1⟩ :: L) R w') (hR : ndT (.slice A 2 c) (lvsN sd0 2) ∈ R) => gpub_yes sd0 1 A 2 c (lvsN sd0 2) 1 hM hR (by decide) (lvsN_length _ _) hT)
  have HPT := Lib.hid (fun (w' : World) (hb : Below w.heap.size w w') => ptext_yes 1 (rootN (lvsN sd0 2)) w' (by decide) (by decide) (hA.keep hb))
  have HVE := Lib.hid (fun (B : Option Addr) (c : Nat) (w' : World) (hr : NIn w' B 1 (sibsF (lvsN sd0 2) 0 1)) (hb : Below w.heap.size w w') => gver_any 1 (rootN (lvsN sd0 2)) d1 0 (sgCh sd0 0 d1) B 1 c (sibsF (lvsN sd0 2) 0 1) w' hr (hT.keep hb))
  rw [show verE 1 (rootN (lvsN sd0 2)) d1 0 (sgCh sd0 0 d1) 1 (sibsF (lvsN sd0 2) 0 1) = 0 from ver_sig sd0 1 0 d1 (by decide) (by decide) (by decide)] at HVE
  have l1 : (encT (sigBs 0 1 (sgCh sd0 0 d1) (sibsF (lvsN sd0 2) 0 1))).length = 772 := by rw [encT_length, sigBs_length, sibsF_length]
  have l2 : (encT (pubBs 1 (rootN (lvsN sd0 2)))).length = 24 := by rw [encT_length, pubBs_length]
  simp only [Int.natCast_zero, Int.natCast_one, Int.zero_add] at HSG HTX HPB HPT HVE HN HSU
  simp only [show (2 : Nat) ^ 1 = 2 from rfl] at HN
  have b1 := bstr_size (encT (sigBs 0 1 (sgCh sd0 0 d1) (sibsF (lvsN sd0 2) 0 1)))
  have b2 := bstr_size (encT (pubBs 1 (rootN (lvsN sd0 2))))
  rw [l1] at b1
  rw [l2] at b2
  generalize sgCh sd0 0 d1 = ch at HSG HTX HVE b1
  generalize rootN (lvsN sd0 2) = Z at HPB HPT HVE b2
  generalize sibsF (lvsN sd0 2) 0 1 = P at HSG HTX HVE b1
  generalize lvsN sd0 2 = lv at HN HSG HSU HPB
  generalize bstr (encT (sigBs 0 1 ch P)) = T1 at HTX b1
  generalize bstr (encT (pubBs 1 Z)) = T2 at HPT b2
  generalize pubC 1 Z = PC at HPB HPT HVE
  clear hT hA l1 l2
  go_enter Tryd.func5, Tryd.ntmps5
  go_wp2_with (first | ((with_reducible refine at_build ?_); first | refine lbsec1 ?_ | refine lbd1 ?_ | refine lbd2 ?_))
  refine HN.out.mono ?_
  rintro e w1 ⟨g, A, c, rfl, hM⟩
  clear HN
  go_wp2_with (first | ((with_reducible refine at_build ?_); first | refine lbsec1 ?_ | refine lbd1 ?_ | refine lbd2 ?_))
  refine (HSG.out _ _ _ _ _ _ hM (List.Mem.head _)).mono ?_
  clear hM
  rintro e w2 ⟨B, c2, rfl, hM⟩
  clear HSG
  go_wp2_with (first | ((with_reducible refine at_build ?_); first | refine lbsec1 ?_ | refine lbd1 ?_ | refine lbd2 ?_) | ((with_reducible refine at_alloc ?_); refine slz hM ?_ (hz := zero_sgn); clear hM; intro g3 w1 hM) | ((with_reducible refine at_store ?_); refine slw hM ?_ (hs := sigC_size _ _ _ _ _) (h1 := sigC_one _ _ _ _ _) (hty := row_sgn); clear hM; intro wx hM))
  replace hM := hM.permL (List.Perm.swap _ _ _)
  refine (HSU.out _ _ _ _ _ _ hM).mono ?_
  clear hM
  rintro e w2 ⟨rfl, hM⟩
  clear HSU
  go_wp2_with (first | ((with_reducible refine at_build ?_); first | refine lbsec1 ?_ | refine lbd1 ?_ | refine lbd2 ?_) | ((with_reducible refine at_alloc ?_); refine slz hM ?_ (hz := zero_sgn); clear hM; intro g5 w1 hM) | ((with_reducible refine at_store ?_); refine slw hM ?_ (hs := sigC_size _ _ _ _ _) (h1 := sigC_one _ _ _ _ _) (hty := row_sgn); clear hM; intro wx hM) | ((with_reducible refine at_load ?_); refine sll hM ?_ (hty := row_sgn)))
  replace hM := hM.subL (L' := [_, _]) (List.sublist_cons_self _ _)
  refine (HTX.out _ _ _ (p16T_in (hM.thing _ (List.Mem.head _))) hM.below).mono ?_
  rintro e w2 ⟨rfl, hb⟩
  replace hM := hM.step hb
  clear hb HTX
  go_wp2_with fail
  refine (HPB.out _ _ _ _ _ _ hM (List.Mem.tail _ (List.Mem.head _))).mono ?_
  clear hM
  rintro e w2 ⟨rfl, hM⟩
  go_wp2_with fail
  refine (HPT.out _ hM.below).mono ?_
  rintro e w2 ⟨rfl, hb⟩
  replace hM := hM.step hb
  clear hb HPT
  go_upto_region 6 with fail
  refine Go.Bul.wp_region_class (Mem _ w _ _) (by kernel_rfl) (by kernel_rfl) hM.drew ?_
  repeat ((with_reducible refine wpQuiet_step (fun K hK => ?_)); (first | ((first | ((with_reducible refine quiet_some ?_ ?_); (· rfl)) | ((with_reducible refine Go.Thg.quiet_wanted ?_ ?_); (· rfl))); apply Exists.intro; refine ⟨fun w' hM' => ?_, ?_⟩; (· first | (go_simp; rfl) | (go_simp; with_reducible refine at_calls ?_; exact HPB.out _ _ _ _ _ _ hM' (List.Mem.tail _ (List.Mem.head _))) | (go_simp; with_reducible refine at_calls ?_; exact quiet_mem_call hM' (HVE.out _ _ _ (p16T_in (hM'.thing _ (List.Mem.head _))) hM'.below)) | exact sql hM' (hty := row_sgn) | exact qc hM' | exact ql hM' | exact qp hM')) | ((with_reducible refine Go.Thg.quiet_unwanted ?_ ?_); (· rfl))); go_simp; (with_reducible refine hK _ ?_); clear hK K)
  (with_reducible refine wpQuiet_step (fun K hK => ?_))
  (with_reducible refine Go.Thg.quiet_wanted ?_ ?_)
  · rfl
  apply Exists.intro
  refine ⟨fun w' hM' => ?_, ?_⟩
  · go_simp
    with_reducible refine at_calls ?_
    exact quiet_mem_call hM' (HVE.out _ _ _ (p16T_in (hM'.thing _ (List.Mem.head _))) hM'.below)
  go_simp
  with_reducible refine hK _ ?_
  clear hK K
  repeat ((with_reducible refine wpQuiet_step (fun K hK => ?_)); (first | ((first | ((with_reducible refine quiet_some ?_ ?_); (· rfl)) | ((with_reducible refine Go.Thg.quiet_wanted ?_ ?_); (· rfl))); apply Exists.intro; refine ⟨fun w' hM' => ?_, ?_⟩; (· first | (go_simp; rfl) | fail | exact qc hM' | exact ql hM' | exact qp hM')) | ((with_reducible refine Go.Thg.quiet_unwanted ?_ ?_); (· rfl))); go_simp; (with_reducible refine hK _ ?_); clear hK K)
  refine wpQuiet_nil ?_
  intro wx hM
  go_wp2_with fail
  go_ret
  exact ⟨rfl, hM.below⟩
end Go.Proofs.YtbbdnlcjjcmllaaDoor
namespace Go.Proofs.YtbbdnlcjjcmllaaDoor
open Go Go.RowKit Go.Bul Go.Thg Go.Lin
theorem sgn_fill3 (leaf : Int) (ch : Ch) (A : Option Addr) (n c : Nat) : Instr.fill (sgPlaces[·]?) (sigC 0 ch0 none 0 0) [(0, .int .i64 leaf), (1, .agg (chC ch)), (2, .slice A n c)] = some (sigC leaf ch A n c) := by
  have e0 := ch_len ch0
  have e1 := ch_len ch
  rw [fill_cons (size := 1) rfl rfl (by rw [sigC_size]; omega)]
  have e2 : (splice (sigC 0 ch0 none 0 0).toList 0 (Value.cells (.int .i64 leaf)).toList).toArray = sigC leaf ch0 none 0 0 := rfl
  rw [e2, fill_cons (size := 560) rfl (by exact chC_size _) (by rw [sigC_size]; omega)]
  have e3 : (splice (sigC leaf ch0 none 0 0).toList 1 (Value.cells (.agg (chC ch))).toList).toArray = sigC leaf ch none 0 0 :=
    congrArg List.toArray (splice_mid (.int .i64 leaf) (vals .u8 ch0.val) [Value.slice none 0 0] (vals .u8 ch.val) (by omega))
  rw [e3, fill_cons (size := 1) rfl rfl (by rw [sigC_size]; omega)]
  have e4 : (splice (sigC leaf ch none 0 0).toList 561 (Value.cells (.slice A n c)).toList).toArray = sigC leaf ch A n c := by
    have h := splice_at (.int .i64 leaf :: vals .u8 ch.val) [.slice none 0 0] [] [.slice A n c] rfl
    simp only [List.length_cons, e1, List.append_nil, List.cons_append] at h
    exact congrArg List.toArray h
  rw [e4]
  rfl
theorem run_sgn3 (leaf : Int) (ch : Ch) (A : Option Addr) (n c : Nat) (w : World) : (Instr.build 37 #[(0, .int .i64 leaf), (1, .agg (chC ch)), (2, .slice A n c)]).run Tryd.prog w = .ok (.agg (sigC leaf ch A n c)) w :=
  run_build_struct sgn_struct sgn_zero sgn_places (sgn_fill3 leaf ch A n c) w
set_option maxRecDepth 20000 in
theorem rsg_zero : (Tryd.prog.info? 53).map (·.zero) = some (some (.agg (sigC 0 ch0 none 0 0))) := by kernel_rfl
theorem rsg_struct : Tryd.prog.underlying 53 = some (.struct (Tryd.prog.fieldsOf 53)) := by kernel_rfl
theorem rsg_places (w : World) : (((Tryd.prog.fieldsOf 53).mapM fun f => do pure (f.offset, ← sizeOf f.type) : Sem (Array (Nat × Nat)))).run Tryd.prog w = .ok sgPlaces w := by kernel_rfl
theorem run_rsg3 (leaf : Int) (ch : Ch) (A : Option Addr) (n c : Nat) (w : World) : (Instr.build 53 #[(0, .int .i64 leaf), (1, .agg (chC ch)), (2, .slice A n c)]).run Tryd.prog w = .ok (.agg (sigC leaf ch A n c)) w :=
  run_build_struct rsg_struct rsg_zero rsg_places (sgn_fill3 leaf ch A n c) w
section
variable {w : World} {ops : Array Oper} {rest : List Oper} {o : Oper} {a : Act} {Q : Exit → Act → World → Prop} {x0 x1 x2 : Operand} {leaf : Int} {ch : Ch} {A : Option Addr} {n c : Nat}
theorem lbsgn3 (hk : wpList Tryd.prog ops Q rest (a.put o.dst (.agg (sigC leaf ch A n c))) w) (hgd : o.guard = none := by rfl) (ho : o.op = .build 37 #[(0, x0), (1, x1), (2, x2)] := by rfl) (h0 : a.eval x0 = .int .i64 leaf := by rfl) (h1 : a.eval x1 = .agg (chC ch) := by rfl) (h2 : a.eval x2 = .slice A n c := by rfl) : wpList Tryd.prog ops Q (o :: rest) a w :=
  wpList_build_run hgd _ _ ho _ (by simp only [List.map_toArray, List.map_cons, List.map_nil, h0, h1, h2]) _ (run_sgn3 leaf ch A n c w) hk
theorem lbrsg3 (hk : wpList Tryd.prog ops Q rest (a.put o.dst (.agg (sigC leaf ch A n c))) w) (hgd : o.guard = none := by rfl) (ho : o.op = .build 53 #[(0, x0), (1, x1), (2, x2)] := by rfl) (h0 : a.eval x0 = .int .i64 leaf := by rfl) (h1 : a.eval x1 = .agg (chC ch) := by rfl) (h2 : a.eval x2 = .slice A n c := by rfl) : wpList Tryd.prog ops Q (o :: rest) a w :=
  wpList_build_run hgd _ _ ho _ (by simp only [List.map_toArray, List.map_cons, List.map_nil, h0, h1, h2]) _ (run_rsg3 leaf ch A n c w) hk
end
theorem run_16none (w : World) : (Instr.buildSlice 35 0 #[]).run Tryd.prog w = .ok (.slice (some ⟨w.heap.size, 0, none⟩) 0 0) (w.alloc (.cells #[] 23)) := by
  have h : (Tryd.prog.info? 23).map (·.size) = some 16 := by kernel_rfl
  cases hq : Tryd.prog.info? 23 with
  | none => rw [hq] at h; simp at h
  | some i =>
    rw [hq] at h
    simp [Instr.buildSlice, run_underlying Tryd.underlying35, sizeOf, typeInfo, hq, newRow, Instr.fill]
    have e : (Array.map (fun _ => (default : Value)) (Array.range 0)) = #[] := Array.eq_empty_of_size_eq_zero (by simp)
    rw [e]
theorem lb16n {w w0 : World} {G : List Nat} {L : List Ent} {R : List Thing} {ops : Array Oper} {rest : List Oper} {o : Oper} {a : Act} {Q : Exit → Act → World → Prop} (hM : Mem G w0 L R w) (h : ∀ g w', Mem G w0 L (p16T (.slice (some ⟨g, 0, none⟩) 0 0) [] :: R) w' → wpList Tryd.prog ops Q rest (a.put o.dst (.slice (some ⟨g, 0, none⟩) 0 0)) w')
    (hgd : o.guard = none := by rfl) (ho : o.op = .buildSlice 35 0 #[] := by rfl) : wpList Tryd.prog ops Q (o :: rest) a w := by
  refine wpList_plain hgd fun K hK => ?_
  unfold Oper.wp execOp
  simp only [ho, List.map_toArray, List.map_nil, Sem.run_bind, run_16none, Result.andThen_ok]
  exact hK _ _ (h _ _ ((hM.step ((Below.refl _ _).alloc (Nat.le_refl _) (.cells #[] 23))).newThing (hbecomes_zero _ (KeptBut.refl _ _))))
set_option maxRecDepth 20000 in
set_option maxHeartbeats 2000000 in
theorem lown_any (leaf : Int) (ch : Ch) (A : Option Addr) (n c : Nat) (path : List Nd) (w : World) (hr : NIn w A n path) (hn : n ≤ 1000000) :
    Calls Tryd.prog 12 #[.agg (sigC leaf ch A n c)] w fun e w' => ∃ B c', e = .returned (.agg (sigC leaf ch B n c')) ∧ Becomes [] w (p16T (.slice B n c') path) w' := by
  have hM := Mem.start [] w
  have HS := Lib.hid (sigC_size leaf ch A n c)
  have H0 := Lib.hid (sigC_0 leaf ch A n c)
  have HC := Lib.hid (sigC_c leaf ch A n c)
  have HP := Lib.hid (sigC_p leaf ch A n c)
  have HL := Lib.hid hr.len
  have HR := Lib.hid hr
  have h63 : ([] : List Nd).length + path.length ≤ 1000000000 := by rw [← hr.len]; simp; omega
  generalize sigC leaf ch A n c = X at HS H0 HC HP ⊢
  clear hr hn
  go_enter Tryd.func12, Tryd.ntmps12
  go_upto_region 1 with (first | ((with_reducible refine at_box ?_); refine slb hM ?_ (hty := row_rsg) (hn := HS.out); clear hM; intro g1 w1 hM) | ((with_reducible refine at_alloc ?_); refine slz hM ?_ (hz := zero_sgn); clear hM; intro g2 w1 hM))
  obtain ⟨g2, hg2⟩ := hM.name1
  obtain ⟨g1, hg1⟩ := (hM.subL (List.sublist_cons_self _ _)).name1
  subst hg2 hg1
  refine wp_region_allHM hM (HeldM [⟨g1, 53, 562, X⟩]) (by kernel_rfl) ?_
  clear hM
  intro wd hM
  have hS := HeldM.of (hM.subL (L' := [⟨g1, 53, 562, X⟩]) (List.sublist_cons_self _ _))
  refine wpAllH_takes [0, 2, 5, 1, 3, 6] (by kernel_rfl) (fun _ _ _ _ _ h => h) hS (by kernel_rfl) ?_
  simp only [pickOps, List.filterMap_cons, List.filterMap_nil, List.getElem?_cons_zero, List.getElem?_cons_succ]
  repeat ((with_reducible apply wpHeld_step); (· rfl); (· (intro w hSw; first | (go_simp; rfl) | ((obtain ⟨_, _, _, hM'⟩ := hSw; first | exact yields_load (C := fun _ => True) (sqc hM' (hv := H0.out)) rfl | exact yields_load (C := fun _ => True) (sqc hM' (hv := HP.out)) rfl | exact yields_load (C := fun _ => True) (sqp hM' (hX := HC.out) (hty := row_a560)) rfl)))); intro K hK; go_simp; (with_reducible refine hK _ ?_); clear hK K)
  refine wpHeld_nil ?_
  refine wpAllH_one 4 rfl (by kernel_rfl) ?_
  refine lb16n hM ?_
  clear hM hS
  intro g3 wz hM
  have hS := HeldM.of (hM.subL (L' := [⟨g1, 53, 562, X⟩]) (List.sublist_cons_self _ _))
  refine wpList_then ⟨hS, ?_⟩
  go_simp
  refine wpAllH_one 7 rfl (by kernel_rfl) ?_
  refine la16 ((HR.out.keep hM.below : Reads _ 16 _ _ (ndCells path)).src Tryd.underlying35 (ndCells_one _)) hM h63 ?_
  clear hM hS
  intro B N c' wy hN hM
  rw [List.nil_append] at hM hN
  obtain rfl : N = n := by have := hN.out; have := HL.out; omega
  have hS := HeldM.of (hM.subL (L' := [⟨g1, 53, 562, X⟩]) (List.sublist_cons_self _ _))
  refine wpList_then ⟨hS, ?_⟩
  go_simp
  refine wpAllH_one 8 rfl (by kernel_rfl) ?_
  refine lbsgn3 ?_
  refine wpList_then ⟨hS, ?_⟩
  go_simp
  refine wpAllH_one 9 rfl (by kernel_rfl) ?_
  refine slw hM ?_ (hs := sigC_size _ _ _ _ _) (h1 := sigC_one _ _ _ _ _) (hty := row_sgn)
  clear hM hS
  intro wx hM
  have hS := HeldM.of (hM.subL (L' := [⟨g1, 53, 562, X⟩]) (List.sublist_cons_self _ _))
  refine wpList_then ⟨hS, ?_⟩
  refine wpAllH_done (by kernel_rfl) ?_
  go_wp2_with fail
  have hb := hM.becomes (List.Mem.head _)
  exact bodyPost_ret (results_mem_cell hM rfl (by rfl) (by repeat (first | exact List.Mem.head _ | apply List.Mem.tail)) row_sgn) rfl ⟨B, c', rfl, hb⟩
set_option maxRecDepth 20000 in
set_option maxHeartbeats 2000000 in
theorem lback_any (leaf : Int) (ch : Ch) (A : Option Addr) (n c : Nat) (path : List Nd) (w : World) (hr : NIn w A n path) (hn : n ≤ 1000000) :
    Calls Tryd.prog 13 #[.agg (sigC leaf ch A n c)] w fun e w' => ∃ B c', e = .returned (.agg (sigC leaf ch B n c')) ∧ Becomes [] w (p16T (.slice B n c') path) w' := by
  have hM := Mem.start [] w
  have HS := Lib.hid (sigC_size leaf ch A n c)
  have H0 := Lib.hid (sigC_0 leaf ch A n c)
  have HC := Lib.hid (sigC_c leaf ch A n c)
  have HP := Lib.hid (sigC_p leaf ch A n c)
  have HL := Lib.hid hr.len
  have HR := Lib.hid hr
  have h63 : ([] : List Nd).length + path.length ≤ 1000000000 := by rw [← hr.len]; simp; omega
  generalize sigC leaf ch A n c = X at HS H0 HC HP ⊢
  clear hr hn
  go_enter Tryd.func13, Tryd.ntmps13
  go_upto_region 1 with (first | ((with_reducible refine at_box ?_); refine slb hM ?_ (hty := row_sgn) (hn := HS.out); clear hM; intro g1 w1 hM) | ((with_reducible refine at_alloc ?_); refine slz hM ?_ (hz := zero_rsg); clear hM; intro g2 w1 hM))
  obtain ⟨g2, hg2⟩ := hM.name1
  obtain ⟨g1, hg1⟩ := (hM.subL (List.sublist_cons_self _ _)).name1
  subst hg2 hg1
  refine wp_region_allHM hM (HeldM [⟨g1, 37, 562, X⟩]) (by kernel_rfl) ?_
  clear hM
  intro wd hM
  have hS := HeldM.of (hM.subL (L' := [⟨g1, 37, 562, X⟩]) (List.sublist_cons_self _ _))
  refine wpAllH_takes [0, 2, 5, 1, 3, 6] (by kernel_rfl) (fun _ _ _ _ _ h => h) hS (by kernel_rfl) ?_
  simp only [pickOps, List.filterMap_cons, List.filterMap_nil, List.getElem?_cons_zero, List.getElem?_cons_succ]
  repeat ((with_reducible apply wpHeld_step); (· rfl); (· (intro w hSw; first | (go_simp; rfl) | ((obtain ⟨_, _, _, hM'⟩ := hSw; first | exact yields_load (C := fun _ => True) (sqc hM' (hv := H0.out)) rfl | exact yields_load (C := fun _ => True) (sqc hM' (hv := HP.out)) rfl | exact yields_load (C := fun _ => True) (sqp hM' (hX := HC.out) (hty := row_a560)) rfl)))); intro K hK; go_simp; (with_reducible refine hK _ ?_); clear hK K)
  refine wpHeld_nil ?_
  refine wpAllH_one 4 rfl (by kernel_rfl) ?_
  refine lb16n hM ?_
  clear hM hS
  intro g3 wz hM
  have hS := HeldM.of (hM.subL (L' := [⟨g1, 37, 562, X⟩]) (List.sublist_cons_self _ _))
  refine wpList_then ⟨hS, ?_⟩
  go_simp
  refine wpAllH_one 7 rfl (by kernel_rfl) ?_
  refine la16 ((HR.out.keep hM.below : Reads _ 16 _ _ (ndCells path)).src Tryd.underlying35 (ndCells_one _)) hM h63 ?_
  clear hM hS
  intro B N c' wy hN hM
  rw [List.nil_append] at hM hN
  obtain rfl : N = n := by have := hN.out; have := HL.out; omega
  have hS := HeldM.of (hM.subL (L' := [⟨g1, 37, 562, X⟩]) (List.sublist_cons_self _ _))
  refine wpList_then ⟨hS, ?_⟩
  go_simp
  refine wpAllH_one 8 rfl (by kernel_rfl) ?_
  refine lbrsg3 ?_
  refine wpList_then ⟨hS, ?_⟩
  go_simp
  refine wpAllH_one 9 rfl (by kernel_rfl) ?_
  refine slw hM ?_ (hs := sigC_size _ _ _ _ _) (h1 := sigC_one _ _ _ _ _) (hty := row_rsg)
  clear hM hS
  intro wx hM
  have hS := HeldM.of (hM.subL (L' := [⟨g1, 37, 562, X⟩]) (List.sublist_cons_self _ _))
  refine wpList_then ⟨hS, ?_⟩
  refine wpAllH_done (by kernel_rfl) ?_
  go_wp2_with fail
  have hb := hM.becomes (List.Mem.head _)
  exact bodyPost_ret (results_mem_cell hM rfl (by rfl) (by repeat (first | exact List.Mem.head _ | apply List.Mem.tail)) row_rsg) rfl ⟨B, c', rfl, hb⟩
end Go.Proofs.YtbbdnlcjjcmllaaDoor
